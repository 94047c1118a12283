/-
  DERIVED. GIVEN WITH THE SEED: THE CARDS: each row of YtedjkbekhhffeaaDoorRows.lean that lists a variable, with what it lists TIED to the program's text (the seventh form; the later family's looks); each row that meets fmt, with fmt's text TOLD by the authors' own Lean function (tested against real Go, not proved from fmt's source: count such statements apart). THE CARD IS WHAT COUNTS. Prove the row's statement (the work); the ties are given (YtedjkbekhhffeaaDoorTie.lean); close each card by the builder's one call (the guide's Derived/Test/ToyasCard.lean, 'card_holds'). Laid BY PROGRAM, IN A SANDBOX (cutbox-door.mjs). By AI agents, Wed Nov 11 2026. No macro, syntax, notation, axiom, sorry.
-/
import Derived.Test.YtedjkbekhhffeaaDoorRows
import GoSem.ClaimSeven
namespace Go.Proofs.YtedjkbekhhffeaaDoor
namespace Rows

/-- THE TIED CARD OF 'cloisterlaw10.IsaWords'. -/
def isaWordsCard : Claim7 := { stood := { row := isaWordsRow, standIns := [], harness := (true, "8db23286b29da9f0ac0ef0eb1f9e04f735c3f8dde601032174e911b2a04bc859"), looks := false }, kinds := [], alts := [], laidByText := true, laidKinds := [.data, .data, .data, .data], laidTests := true, laidLooks := .later }
def IsaWordsCardSaid : Prop := Claim7.holds Tryd.pinned (.plain (OpenSpec.ofChange isaWordsSpec)) isaWordsCard

/-- THE TIED CARD OF 'cloisterlaw10.IsaOne'. -/
def isaOneCard : Claim7 := { stood := { row := isaOneRow, standIns := [], harness := (true, "8db23286b29da9f0ac0ef0eb1f9e04f735c3f8dde601032174e911b2a04bc859"), looks := false }, kinds := [], alts := [], laidByText := true, laidKinds := [.data, .data, .data, .data], laidTests := true, laidLooks := .later }
def IsaOneCardSaid : Prop := Claim7.holds Tryd.pinned (.plain (OpenSpec.ofChange isaOneSpec)) isaOneCard

/-- THE TIED CARD OF 'cloisterlaw10.IsaNames'. -/
def isaNamesCard : Claim7 := { stood := { row := isaNamesRow, standIns := [], harness := (true, "8db23286b29da9f0ac0ef0eb1f9e04f735c3f8dde601032174e911b2a04bc859"), looks := false }, kinds := [], alts := [], laidByText := true, laidKinds := [.data, .data, .data, .data], laidTests := true, laidLooks := .later }
def IsaNamesCardSaid : Prop := Claim7.holds Tryd.pinned (.plain (OpenSpec.ofChange isaNamesSpec)) isaNamesCard

/-- THE TIED CARD OF 'cloisterlaw10.IsaBack'. -/
def isaBackCard : Claim7 := { stood := { row := isaBackRow, standIns := [], harness := (true, "8db23286b29da9f0ac0ef0eb1f9e04f735c3f8dde601032174e911b2a04bc859"), looks := false }, kinds := [], alts := [], laidByText := true, laidKinds := [.data, .data, .data, .data], laidTests := true, laidLooks := .later }
def IsaBackCardSaid : Prop := Claim7.holds Tryd.pinned (.plain (OpenSpec.ofChange isaBackSpec)) isaBackCard

/-- THE TIED CARD OF 'cloisterlaw10.IsaMakes'. -/
def isaMakesCard : Claim7 := { stood := { row := isaMakesRow, standIns := [], harness := (true, "8db23286b29da9f0ac0ef0eb1f9e04f735c3f8dde601032174e911b2a04bc859"), looks := false }, kinds := [], alts := [], laidByText := true, laidKinds := [.data, .data, .data, .data], laidTests := true, laidLooks := .later }
def IsaMakesCardSaid : Prop := Claim7.holds Tryd.pinned (.plain (OpenSpec.ofChange isaMakesSpec)) isaMakesCard

/-- THE TIED CARD OF 'cloisterlaw10.IsaUses'. -/
def isaUsesCard : Claim7 := { stood := { row := isaUsesRow, standIns := [], harness := (true, "8db23286b29da9f0ac0ef0eb1f9e04f735c3f8dde601032174e911b2a04bc859"), looks := false }, kinds := [], alts := [], laidByText := true, laidKinds := [.data, .data, .data, .data], laidTests := true, laidLooks := .later }
def IsaUsesCardSaid : Prop := Claim7.holds Tryd.pinned (.plain (OpenSpec.ofChange isaUsesSpec)) isaUsesCard

/-- THE SECOND FORM's CARD OF 'cloisterlaw10.IsaWords'. -/
def isaWordsUptoCard : Claim7 := { stood := { row := isaWordsUptoRow, standIns := [], harness := (true, "8db23286b29da9f0ac0ef0eb1f9e04f735c3f8dde601032174e911b2a04bc859"), looks := false }, kinds := [], alts := [], laidByText := true, laidKinds := [.data, .data, .data, .data], laidTests := true, laidLooks := .later }
def IsaWordsUptoCardSaid : Prop := Claim7.holds Tryd.pinned (.plain (OpenSpec.upto isaWordsSpec)) isaWordsUptoCard

/-- THE SECOND FORM's CARD OF 'cloisterlaw10.IsaOne'. -/
def isaOneUptoCard : Claim7 := { stood := { row := isaOneUptoRow, standIns := [], harness := (true, "8db23286b29da9f0ac0ef0eb1f9e04f735c3f8dde601032174e911b2a04bc859"), looks := false }, kinds := [], alts := [], laidByText := true, laidKinds := [.data, .data, .data, .data], laidTests := true, laidLooks := .later }
def IsaOneUptoCardSaid : Prop := Claim7.holds Tryd.pinned (.plain (OpenSpec.upto isaOneSpec)) isaOneUptoCard

/-- THE SECOND FORM's CARD OF 'cloisterlaw10.IsaNames'. -/
def isaNamesUptoCard : Claim7 := { stood := { row := isaNamesUptoRow, standIns := [], harness := (true, "8db23286b29da9f0ac0ef0eb1f9e04f735c3f8dde601032174e911b2a04bc859"), looks := false }, kinds := [], alts := [], laidByText := true, laidKinds := [.data, .data, .data, .data], laidTests := true, laidLooks := .later }
def IsaNamesUptoCardSaid : Prop := Claim7.holds Tryd.pinned (.plain (OpenSpec.upto isaNamesSpec)) isaNamesUptoCard

/-- THE SECOND FORM's CARD OF 'cloisterlaw10.IsaBack'. -/
def isaBackUptoCard : Claim7 := { stood := { row := isaBackUptoRow, standIns := [], harness := (true, "8db23286b29da9f0ac0ef0eb1f9e04f735c3f8dde601032174e911b2a04bc859"), looks := false }, kinds := [], alts := [], laidByText := true, laidKinds := [.data, .data, .data, .data], laidTests := true, laidLooks := .later }
def IsaBackUptoCardSaid : Prop := Claim7.holds Tryd.pinned (.plain (OpenSpec.upto isaBackSpec)) isaBackUptoCard

/-- THE SECOND FORM's CARD OF 'cloisterlaw10.IsaMakes'. -/
def isaMakesUptoCard : Claim7 := { stood := { row := isaMakesUptoRow, standIns := [], harness := (true, "8db23286b29da9f0ac0ef0eb1f9e04f735c3f8dde601032174e911b2a04bc859"), looks := false }, kinds := [], alts := [], laidByText := true, laidKinds := [.data, .data, .data, .data], laidTests := true, laidLooks := .later }
def IsaMakesUptoCardSaid : Prop := Claim7.holds Tryd.pinned (.plain (OpenSpec.upto isaMakesSpec)) isaMakesUptoCard

/-- THE SECOND FORM's CARD OF 'cloisterlaw10.IsaUses'. -/
def isaUsesUptoCard : Claim7 := { stood := { row := isaUsesUptoRow, standIns := [], harness := (true, "8db23286b29da9f0ac0ef0eb1f9e04f735c3f8dde601032174e911b2a04bc859"), looks := false }, kinds := [], alts := [], laidByText := true, laidKinds := [.data, .data, .data, .data], laidTests := true, laidLooks := .later }
def IsaUsesUptoCardSaid : Prop := Claim7.holds Tryd.pinned (.plain (OpenSpec.upto isaUsesSpec)) isaUsesUptoCard
end Rows
end Go.Proofs.YtedjkbekhhffeaaDoor
