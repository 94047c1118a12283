/-
  DERIVED. GIVEN WITH THE SEED: THE CARDS: each row of YtabmlbnnhhpaoaaGreatDoorRows.lean that lists a variable, with what it lists TIED to the program's text (the seventh form; the later family's looks); each row that meets fmt, with fmt's text TOLD by the authors' own Lean function (tested against real Go, not proved from fmt's source: count such statements apart). THE CARD IS WHAT COUNTS. Prove the row's statement (the work); the ties are given (YtabmlbnnhhpaoaaGreatDoorTie.lean); close each card by the builder's one call (the guide's Derived/Test/ToyasCard.lean, 'card_holds'). Laid BY PROGRAM, IN A SANDBOX (cutbox-door.mjs). By AI agents, Wed Nov 11 2026. No macro, syntax, notation, axiom, sorry.
-/
import Derived.Test.YtabmlbnnhhpaoaaGreatDoorRows
import GoSem.ClaimSeven
namespace Go.Proofs.YtabmlbnnhhpaoaaGreatDoor
namespace Rows

/-- THE TIED CARD OF 'cloisterlaw11.AsmReads'. -/
def asmReadsCard : Claim7 := { stood := { row := asmReadsRow, standIns := [], harness := (true, "6b63514a79ed04c30bcfb78a9b57ef7bb1fd90b221f409cda5999e01e75e21b0"), looks := true }, kinds := [], alts := [], laidByText := true, laidKinds := [.data, .data, .data, .data, .data, .pinned], laidTests := true, laidLooks := .later }
def AsmReadsCardSaid : Prop := Claim7.holds Tryz.pinned (.plain (OpenSpec.ofChange asmReadsSpec)) asmReadsCard

/-- THE TIED CARD OF 'cloisterlaw11.AsmPrints'. -/
def asmPrintsCard : Claim7 := { stood := { row := asmPrintsRow, standIns := [], harness := (true, "6b63514a79ed04c30bcfb78a9b57ef7bb1fd90b221f409cda5999e01e75e21b0"), looks := true }, kinds := [], alts := [], laidByText := true, laidKinds := [.data, .data, .data, .data, .data, .pinned], laidTests := true, laidLooks := .later }
def AsmPrintsCardSaid : Prop := Claim7.holds Tryz.pinned (.plain (OpenSpec.ofChange asmPrintsSpec)) asmPrintsCard

/-- THE TIED CARD OF 'cloisterlaw11.AsmLines'. -/
def asmLinesCard : Claim7 := { stood := { row := asmLinesRow, standIns := [], harness := (true, "6b63514a79ed04c30bcfb78a9b57ef7bb1fd90b221f409cda5999e01e75e21b0"), looks := true }, kinds := [], alts := [], laidByText := true, laidKinds := [.data, .data, .data, .data, .data, .pinned], laidTests := true, laidLooks := .later }
def AsmLinesCardSaid : Prop := Claim7.holds Tryz.pinned (.plain (OpenSpec.ofChange asmLinesSpec)) asmLinesCard

/-- THE TIED CARD OF 'cloisterlaw11.AsmBack'. -/
def asmBackCard : Claim7 := { stood := { row := asmBackRow, standIns := [], harness := (true, "6b63514a79ed04c30bcfb78a9b57ef7bb1fd90b221f409cda5999e01e75e21b0"), looks := true }, kinds := [], alts := [], laidByText := true, laidKinds := [.data, .data, .data, .data, .data, .pinned], laidTests := true, laidLooks := .later }
def AsmBackCardSaid : Prop := Claim7.holds Tryz.pinned (.plain (OpenSpec.ofChange asmBackSpec)) asmBackCard

/-- THE TIED CARD OF 'cloisterlaw11.AsmFix'. -/
def asmFixCard : Claim7 := { stood := { row := asmFixRow, standIns := [], harness := (true, "6b63514a79ed04c30bcfb78a9b57ef7bb1fd90b221f409cda5999e01e75e21b0"), looks := true }, kinds := [], alts := [], laidByText := true, laidKinds := [.data, .data, .data, .data, .data, .pinned], laidTests := true, laidLooks := .later }
def AsmFixCardSaid : Prop := Claim7.holds Tryz.pinned (.plain (OpenSpec.ofChange asmFixSpec)) asmFixCard

/-- THE TIED CARD OF 'cloisterlaw11.AsmWord'. -/
def asmWordCard : Claim7 := { stood := { row := asmWordRow, standIns := [], harness := (true, "6b63514a79ed04c30bcfb78a9b57ef7bb1fd90b221f409cda5999e01e75e21b0"), looks := true }, kinds := [], alts := [], laidByText := true, laidKinds := [.data, .data, .data, .data, .data, .pinned], laidTests := true, laidLooks := .later }
def AsmWordCardSaid : Prop := Claim7.holds Tryz.pinned (.plain (OpenSpec.ofChange asmWordSpec)) asmWordCard

/-- THE TIED CARD OF 'cloisterlaw11.AsmBlanks'. -/
def asmBlanksCard : Claim7 := { stood := { row := asmBlanksRow, standIns := [], harness := (true, "6b63514a79ed04c30bcfb78a9b57ef7bb1fd90b221f409cda5999e01e75e21b0"), looks := true }, kinds := [], alts := [], laidByText := true, laidKinds := [.data, .data, .data, .data, .data, .pinned], laidTests := true, laidLooks := .later }
def AsmBlanksCardSaid : Prop := Claim7.holds Tryz.pinned (.plain (OpenSpec.ofChange asmBlanksSpec)) asmBlanksCard

/-- THE TIED CARD OF 'cloisterlaw11.AsmRenamed'. -/
def asmRenamedCard : Claim7 := { stood := { row := asmRenamedRow, standIns := [], harness := (true, "6b63514a79ed04c30bcfb78a9b57ef7bb1fd90b221f409cda5999e01e75e21b0"), looks := true }, kinds := [], alts := [], laidByText := true, laidKinds := [.data, .data, .data, .data, .data, .pinned], laidTests := true, laidLooks := .later }
def AsmRenamedCardSaid : Prop := Claim7.holds Tryz.pinned (.plain (OpenSpec.ofChange asmRenamedSpec)) asmRenamedCard

/-- THE SECOND FORM's CARD OF 'cloisterlaw11.AsmReads'. -/
def asmReadsUptoCard : Claim7 := { stood := { row := asmReadsUptoRow, standIns := [], harness := (true, "6b63514a79ed04c30bcfb78a9b57ef7bb1fd90b221f409cda5999e01e75e21b0"), looks := true }, kinds := [], alts := [], laidByText := true, laidKinds := [.data, .data, .data, .data, .data, .pinned], laidTests := true, laidLooks := .later }
def AsmReadsUptoCardSaid : Prop := Claim7.holds Tryz.pinned (.plain (OpenSpec.upto asmReadsSpec)) asmReadsUptoCard

/-- THE SECOND FORM's CARD OF 'cloisterlaw11.AsmPrints'. -/
def asmPrintsUptoCard : Claim7 := { stood := { row := asmPrintsUptoRow, standIns := [], harness := (true, "6b63514a79ed04c30bcfb78a9b57ef7bb1fd90b221f409cda5999e01e75e21b0"), looks := true }, kinds := [], alts := [], laidByText := true, laidKinds := [.data, .data, .data, .data, .data, .pinned], laidTests := true, laidLooks := .later }
def AsmPrintsUptoCardSaid : Prop := Claim7.holds Tryz.pinned (.plain (OpenSpec.upto asmPrintsSpec)) asmPrintsUptoCard

/-- THE SECOND FORM's CARD OF 'cloisterlaw11.AsmLines'. -/
def asmLinesUptoCard : Claim7 := { stood := { row := asmLinesUptoRow, standIns := [], harness := (true, "6b63514a79ed04c30bcfb78a9b57ef7bb1fd90b221f409cda5999e01e75e21b0"), looks := true }, kinds := [], alts := [], laidByText := true, laidKinds := [.data, .data, .data, .data, .data, .pinned], laidTests := true, laidLooks := .later }
def AsmLinesUptoCardSaid : Prop := Claim7.holds Tryz.pinned (.plain (OpenSpec.upto asmLinesSpec)) asmLinesUptoCard

/-- THE SECOND FORM's CARD OF 'cloisterlaw11.AsmBack'. -/
def asmBackUptoCard : Claim7 := { stood := { row := asmBackUptoRow, standIns := [], harness := (true, "6b63514a79ed04c30bcfb78a9b57ef7bb1fd90b221f409cda5999e01e75e21b0"), looks := true }, kinds := [], alts := [], laidByText := true, laidKinds := [.data, .data, .data, .data, .data, .pinned], laidTests := true, laidLooks := .later }
def AsmBackUptoCardSaid : Prop := Claim7.holds Tryz.pinned (.plain (OpenSpec.upto asmBackSpec)) asmBackUptoCard

/-- THE SECOND FORM's CARD OF 'cloisterlaw11.AsmFix'. -/
def asmFixUptoCard : Claim7 := { stood := { row := asmFixUptoRow, standIns := [], harness := (true, "6b63514a79ed04c30bcfb78a9b57ef7bb1fd90b221f409cda5999e01e75e21b0"), looks := true }, kinds := [], alts := [], laidByText := true, laidKinds := [.data, .data, .data, .data, .data, .pinned], laidTests := true, laidLooks := .later }
def AsmFixUptoCardSaid : Prop := Claim7.holds Tryz.pinned (.plain (OpenSpec.upto asmFixSpec)) asmFixUptoCard

/-- THE SECOND FORM's CARD OF 'cloisterlaw11.AsmWord'. -/
def asmWordUptoCard : Claim7 := { stood := { row := asmWordUptoRow, standIns := [], harness := (true, "6b63514a79ed04c30bcfb78a9b57ef7bb1fd90b221f409cda5999e01e75e21b0"), looks := true }, kinds := [], alts := [], laidByText := true, laidKinds := [.data, .data, .data, .data, .data, .pinned], laidTests := true, laidLooks := .later }
def AsmWordUptoCardSaid : Prop := Claim7.holds Tryz.pinned (.plain (OpenSpec.upto asmWordSpec)) asmWordUptoCard

/-- THE SECOND FORM's CARD OF 'cloisterlaw11.AsmBlanks'. -/
def asmBlanksUptoCard : Claim7 := { stood := { row := asmBlanksUptoRow, standIns := [], harness := (true, "6b63514a79ed04c30bcfb78a9b57ef7bb1fd90b221f409cda5999e01e75e21b0"), looks := true }, kinds := [], alts := [], laidByText := true, laidKinds := [.data, .data, .data, .data, .data, .pinned], laidTests := true, laidLooks := .later }
def AsmBlanksUptoCardSaid : Prop := Claim7.holds Tryz.pinned (.plain (OpenSpec.upto asmBlanksSpec)) asmBlanksUptoCard

/-- THE SECOND FORM's CARD OF 'cloisterlaw11.AsmRenamed'. -/
def asmRenamedUptoCard : Claim7 := { stood := { row := asmRenamedUptoRow, standIns := [], harness := (true, "6b63514a79ed04c30bcfb78a9b57ef7bb1fd90b221f409cda5999e01e75e21b0"), looks := true }, kinds := [], alts := [], laidByText := true, laidKinds := [.data, .data, .data, .data, .data, .pinned], laidTests := true, laidLooks := .later }
def AsmRenamedUptoCardSaid : Prop := Claim7.holds Tryz.pinned (.plain (OpenSpec.upto asmRenamedSpec)) asmRenamedUptoCard
end Rows
end Go.Proofs.YtabmlbnnhhpaoaaGreatDoor
