/-
  DERIVED. GIVEN WITH THE SEED: THE CARDS: each row of YtjiccnebfbpcgaaGreatDoorRows.lean that lists a variable, with what it lists TIED to the program's text (the seventh form; the later family's looks); each row that meets fmt, with fmt's text TOLD by the authors' own Lean function (tested against real Go, not proved from fmt's source: count such statements apart). THE CARD IS WHAT COUNTS. Prove the row's statement (the work); the ties are given (YtjiccnebfbpcgaaGreatDoorTie.lean); close each card by the builder's one call (the guide's Derived/Test/ToyasCard.lean, 'card_holds'). Laid BY PROGRAM, IN A SANDBOX (cutbox-door.mjs). By AI agents, Wed Nov 11 2026. No macro, syntax, notation, axiom, sorry.
-/
import Derived.Test.YtjiccnebfbpcgaaGreatDoorRows
import GoSem.ClaimSeven
namespace Go.Proofs.YtjiccnebfbpcgaaGreatDoor
namespace Rows

/-- THE TIED CARD OF 'droguelaw11.DomLords'. -/
def domLordsCard : Claim7 := { stood := { row := domLordsRow, standIns := [], harness := (true, "d33bf2b375b67c93404f971bc02bc34655269ae3a99e853a70a0bf9b86226e02"), looks := true }, kinds := [], alts := [], laidByText := true, laidKinds := [.data, .data, .data, .sentinel, .sentinel, .listed, .data], laidTests := true, laidLooks := .later }
def DomLordsCardSaid : Prop := Claim7.holds Tryz.pinned (.plain (OpenSpec.ofChange domLordsSpec)) domLordsCard

/-- THE TIED CARD OF 'droguelaw11.DomWays'. -/
def domWaysCard : Claim7 := { stood := { row := domWaysRow, standIns := [], harness := (true, "d33bf2b375b67c93404f971bc02bc34655269ae3a99e853a70a0bf9b86226e02"), looks := true }, kinds := [], alts := [], laidByText := true, laidKinds := [.data, .data, .data, .sentinel, .sentinel, .listed, .data], laidTests := true, laidLooks := .later }
def DomWaysCardSaid : Prop := Claim7.holds Tryz.pinned (.plain (OpenSpec.ofChange domWaysSpec)) domWaysCard

/-- THE TIED CARD OF 'droguelaw12.SolveAnswers'. -/
def solveAnswersCard : Claim7 := { stood := { row := solveAnswersRow, standIns := [], harness := (true, "d33bf2b375b67c93404f971bc02bc34655269ae3a99e853a70a0bf9b86226e02"), looks := true }, kinds := [], alts := [], laidByText := true, laidKinds := [.data, .data, .data, .sentinel, .sentinel, .listed, .data], laidTests := true, laidLooks := .later }
def SolveAnswersCardSaid : Prop := Claim7.holds Tryz.pinned (.plain (OpenSpec.ofChange solveAnswersSpec)) solveAnswersCard

/-- THE TIED CARD OF 'droguelaw12.SolveHolds'. -/
def solveHoldsCard : Claim7 := { stood := { row := solveHoldsRow, standIns := [], harness := (true, "d33bf2b375b67c93404f971bc02bc34655269ae3a99e853a70a0bf9b86226e02"), looks := true }, kinds := [], alts := [], laidByText := true, laidKinds := [.data, .data, .data, .sentinel, .sentinel, .listed, .data], laidTests := true, laidLooks := .later }
def SolveHoldsCardSaid : Prop := Claim7.holds Tryz.pinned (.plain (OpenSpec.ofChange solveHoldsSpec)) solveHoldsCard

/-- THE TIED CARD OF 'droguelaw12.SolveOwn'. -/
def solveOwnCard : Claim7 := { stood := { row := solveOwnRow, standIns := [], harness := (true, "d33bf2b375b67c93404f971bc02bc34655269ae3a99e853a70a0bf9b86226e02"), looks := true }, kinds := [], alts := [], laidByText := true, laidKinds := [.data, .data, .data, .sentinel, .sentinel, .listed, .data], laidTests := true, laidLooks := .later }
def SolveOwnCardSaid : Prop := Claim7.holds Tryz.pinned (.plain (OpenSpec.ofChange solveOwnSpec)) solveOwnCard

/-- THE TIED CARD OF 'droguelaw12.SolveApart'. -/
def solveApartCard : Claim7 := { stood := { row := solveApartRow, standIns := [], harness := (true, "d33bf2b375b67c93404f971bc02bc34655269ae3a99e853a70a0bf9b86226e02"), looks := true }, kinds := [], alts := [], laidByText := true, laidKinds := [.data, .data, .data, .sentinel, .sentinel, .listed, .data], laidTests := true, laidLooks := .later }
def SolveApartCardSaid : Prop := Claim7.holds Tryz.pinned (.plain (OpenSpec.ofChange solveApartSpec)) solveApartCard

/-- THE TIED CARD OF 'droguelaw07.PrintTexts'. -/
def printTextsCard : Claim7 := { stood := { row := printTextsRow, standIns := [], harness := (true, "d33bf2b375b67c93404f971bc02bc34655269ae3a99e853a70a0bf9b86226e02"), looks := true }, kinds := [], alts := [], laidByText := true, laidKinds := [.data, .data, .data, .sentinel, .sentinel, .listed, .data], laidTests := true, laidLooks := .later }
def PrintTextsCardSaid : Prop := Claim7.holds Tryz.pinned (.plain (OpenSpec.ofChange printTextsSpec)) printTextsCard

/-- THE TIED CARD OF 'droguelaw07.PrintBack'. -/
def printBackCard : Claim7 := { stood := { row := printBackRow, standIns := [], harness := (true, "d33bf2b375b67c93404f971bc02bc34655269ae3a99e853a70a0bf9b86226e02"), looks := true }, kinds := [], alts := [], laidByText := true, laidKinds := [.data, .data, .data, .sentinel, .sentinel, .listed, .data], laidTests := true, laidLooks := .later }
def PrintBackCardSaid : Prop := Claim7.holds Tryz.pinned (.plain (OpenSpec.ofChange printBackSpec)) printBackCard

/-- THE TIED CARD OF 'droguelaw07.PrintParsed'. -/
def printParsedCard : Claim7 := { stood := { row := printParsedRow, standIns := [], harness := (true, "d33bf2b375b67c93404f971bc02bc34655269ae3a99e853a70a0bf9b86226e02"), looks := true }, kinds := [], alts := [], laidByText := true, laidKinds := [.data, .data, .data, .sentinel, .sentinel, .listed, .data], laidTests := true, laidLooks := .later }
def PrintParsedCardSaid : Prop := Claim7.holds Tryz.pinned (.plain (OpenSpec.ofChange printParsedSpec)) printParsedCard

/-- THE TIED CARD OF 'droguelaw07.PrintParts'. -/
def printPartsCard : Claim7 := { stood := { row := printPartsRow, standIns := [], harness := (true, "d33bf2b375b67c93404f971bc02bc34655269ae3a99e853a70a0bf9b86226e02"), looks := true }, kinds := [], alts := [], laidByText := true, laidKinds := [.data, .data, .data, .sentinel, .sentinel, .listed, .data], laidTests := true, laidLooks := .later }
def PrintPartsCardSaid : Prop := Claim7.holds Tryz.pinned (.plain (OpenSpec.ofChange printPartsSpec)) printPartsCard

/-- THE TIED CARD OF 'droguelaw07.PrintLines'. -/
def printLinesCard : Claim7 := { stood := { row := printLinesRow, standIns := [], harness := (true, "d33bf2b375b67c93404f971bc02bc34655269ae3a99e853a70a0bf9b86226e02"), looks := true }, kinds := [], alts := [], laidByText := true, laidKinds := [.data, .data, .data, .sentinel, .sentinel, .listed, .data], laidTests := true, laidLooks := .later }
def PrintLinesCardSaid : Prop := Claim7.holds Tryz.pinned (.plain (OpenSpec.ofChange printLinesSpec)) printLinesCard

/-- THE SECOND FORM's CARD OF 'droguelaw11.DomLords'. -/
def domLordsUptoCard : Claim7 := { stood := { row := domLordsUptoRow, standIns := [], harness := (true, "d33bf2b375b67c93404f971bc02bc34655269ae3a99e853a70a0bf9b86226e02"), looks := true }, kinds := [], alts := [], laidByText := true, laidKinds := [.data, .data, .data, .sentinel, .sentinel, .listed, .data], laidTests := true, laidLooks := .later }
def DomLordsUptoCardSaid : Prop := Claim7.holds Tryz.pinned (.plain (OpenSpec.upto domLordsSpec)) domLordsUptoCard

/-- THE SECOND FORM's CARD OF 'droguelaw11.DomWays'. -/
def domWaysUptoCard : Claim7 := { stood := { row := domWaysUptoRow, standIns := [], harness := (true, "d33bf2b375b67c93404f971bc02bc34655269ae3a99e853a70a0bf9b86226e02"), looks := true }, kinds := [], alts := [], laidByText := true, laidKinds := [.data, .data, .data, .sentinel, .sentinel, .listed, .data], laidTests := true, laidLooks := .later }
def DomWaysUptoCardSaid : Prop := Claim7.holds Tryz.pinned (.plain (OpenSpec.upto domWaysSpec)) domWaysUptoCard

/-- THE SECOND FORM's CARD OF 'droguelaw12.SolveAnswers'. -/
def solveAnswersUptoCard : Claim7 := { stood := { row := solveAnswersUptoRow, standIns := [], harness := (true, "d33bf2b375b67c93404f971bc02bc34655269ae3a99e853a70a0bf9b86226e02"), looks := true }, kinds := [], alts := [], laidByText := true, laidKinds := [.data, .data, .data, .sentinel, .sentinel, .listed, .data], laidTests := true, laidLooks := .later }
def SolveAnswersUptoCardSaid : Prop := Claim7.holds Tryz.pinned (.plain (OpenSpec.upto solveAnswersSpec)) solveAnswersUptoCard

/-- THE SECOND FORM's CARD OF 'droguelaw12.SolveHolds'. -/
def solveHoldsUptoCard : Claim7 := { stood := { row := solveHoldsUptoRow, standIns := [], harness := (true, "d33bf2b375b67c93404f971bc02bc34655269ae3a99e853a70a0bf9b86226e02"), looks := true }, kinds := [], alts := [], laidByText := true, laidKinds := [.data, .data, .data, .sentinel, .sentinel, .listed, .data], laidTests := true, laidLooks := .later }
def SolveHoldsUptoCardSaid : Prop := Claim7.holds Tryz.pinned (.plain (OpenSpec.upto solveHoldsSpec)) solveHoldsUptoCard

/-- THE SECOND FORM's CARD OF 'droguelaw12.SolveOwn'. -/
def solveOwnUptoCard : Claim7 := { stood := { row := solveOwnUptoRow, standIns := [], harness := (true, "d33bf2b375b67c93404f971bc02bc34655269ae3a99e853a70a0bf9b86226e02"), looks := true }, kinds := [], alts := [], laidByText := true, laidKinds := [.data, .data, .data, .sentinel, .sentinel, .listed, .data], laidTests := true, laidLooks := .later }
def SolveOwnUptoCardSaid : Prop := Claim7.holds Tryz.pinned (.plain (OpenSpec.upto solveOwnSpec)) solveOwnUptoCard

/-- THE SECOND FORM's CARD OF 'droguelaw12.SolveApart'. -/
def solveApartUptoCard : Claim7 := { stood := { row := solveApartUptoRow, standIns := [], harness := (true, "d33bf2b375b67c93404f971bc02bc34655269ae3a99e853a70a0bf9b86226e02"), looks := true }, kinds := [], alts := [], laidByText := true, laidKinds := [.data, .data, .data, .sentinel, .sentinel, .listed, .data], laidTests := true, laidLooks := .later }
def SolveApartUptoCardSaid : Prop := Claim7.holds Tryz.pinned (.plain (OpenSpec.upto solveApartSpec)) solveApartUptoCard

/-- THE SECOND FORM's CARD OF 'droguelaw07.PrintTexts'. -/
def printTextsUptoCard : Claim7 := { stood := { row := printTextsUptoRow, standIns := [], harness := (true, "d33bf2b375b67c93404f971bc02bc34655269ae3a99e853a70a0bf9b86226e02"), looks := true }, kinds := [], alts := [], laidByText := true, laidKinds := [.data, .data, .data, .sentinel, .sentinel, .listed, .data], laidTests := true, laidLooks := .later }
def PrintTextsUptoCardSaid : Prop := Claim7.holds Tryz.pinned (.plain (OpenSpec.upto printTextsSpec)) printTextsUptoCard

/-- THE SECOND FORM's CARD OF 'droguelaw07.PrintBack'. -/
def printBackUptoCard : Claim7 := { stood := { row := printBackUptoRow, standIns := [], harness := (true, "d33bf2b375b67c93404f971bc02bc34655269ae3a99e853a70a0bf9b86226e02"), looks := true }, kinds := [], alts := [], laidByText := true, laidKinds := [.data, .data, .data, .sentinel, .sentinel, .listed, .data], laidTests := true, laidLooks := .later }
def PrintBackUptoCardSaid : Prop := Claim7.holds Tryz.pinned (.plain (OpenSpec.upto printBackSpec)) printBackUptoCard

/-- THE SECOND FORM's CARD OF 'droguelaw07.PrintParsed'. -/
def printParsedUptoCard : Claim7 := { stood := { row := printParsedUptoRow, standIns := [], harness := (true, "d33bf2b375b67c93404f971bc02bc34655269ae3a99e853a70a0bf9b86226e02"), looks := true }, kinds := [], alts := [], laidByText := true, laidKinds := [.data, .data, .data, .sentinel, .sentinel, .listed, .data], laidTests := true, laidLooks := .later }
def PrintParsedUptoCardSaid : Prop := Claim7.holds Tryz.pinned (.plain (OpenSpec.upto printParsedSpec)) printParsedUptoCard

/-- THE SECOND FORM's CARD OF 'droguelaw07.PrintParts'. -/
def printPartsUptoCard : Claim7 := { stood := { row := printPartsUptoRow, standIns := [], harness := (true, "d33bf2b375b67c93404f971bc02bc34655269ae3a99e853a70a0bf9b86226e02"), looks := true }, kinds := [], alts := [], laidByText := true, laidKinds := [.data, .data, .data, .sentinel, .sentinel, .listed, .data], laidTests := true, laidLooks := .later }
def PrintPartsUptoCardSaid : Prop := Claim7.holds Tryz.pinned (.plain (OpenSpec.upto printPartsSpec)) printPartsUptoCard

/-- THE SECOND FORM's CARD OF 'droguelaw07.PrintLines'. -/
def printLinesUptoCard : Claim7 := { stood := { row := printLinesUptoRow, standIns := [], harness := (true, "d33bf2b375b67c93404f971bc02bc34655269ae3a99e853a70a0bf9b86226e02"), looks := true }, kinds := [], alts := [], laidByText := true, laidKinds := [.data, .data, .data, .sentinel, .sentinel, .listed, .data], laidTests := true, laidLooks := .later }
def PrintLinesUptoCardSaid : Prop := Claim7.holds Tryz.pinned (.plain (OpenSpec.upto printLinesSpec)) printLinesUptoCard
end Rows
end Go.Proofs.YtjiccnebfbpcgaaGreatDoor
