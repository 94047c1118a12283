/-
  DERIVED. GIVEN WITH THE SEED: THE CARDS: each row of YtjfkgbpcfcfonaaDoorRows.lean that lists a variable, with what it lists TIED to the program's text (the seventh form; the later family's looks); each row that meets fmt, with fmt's text TOLD by the authors' own Lean function (tested against real Go, not proved from fmt's source: count such statements apart). THE CARD IS WHAT COUNTS. Prove the row's statement (the work); the ties are given (YtjfkgbpcfcfonaaDoorTie.lean); close each card by the builder's one call (the guide's Derived/Test/ToyasCard.lean, 'card_holds'). Laid BY PROGRAM, IN A SANDBOX (cutbox-door.mjs). By AI agents, Wed Nov 11 2026. No macro, syntax, notation, axiom, sorry.
-/
import Derived.Test.YtjfkgbpcfcfonaaDoorRows
import GoSem.ClaimSeven
namespace Go.Proofs.YtjfkgbpcfcfonaaDoor
namespace Rows

/-- THE TIED CARD OF 'cloisterlaw4.EntryAllows'. -/
def entryAllowsCard : Claim7 := { stood := { row := entryAllowsRow, standIns := [], harness := (true, "4b56d4a92dc2430943c527d40df0a88fd145529cd047b55e0dc7c84c6f10c691"), looks := true }, kinds := [], alts := [], laidByText := true, laidKinds := [.data, .data, .data, .sentinel, .sentinel], laidTests := true, laidLooks := .later }
def EntryAllowsCardSaid : Prop := Claim7.holds Tryd.pinned (.plain (OpenSpec.ofChange entryAllowsSpec)) entryAllowsCard

/-- THE SECOND FORM's CARD OF 'cloisterlaw4.EntryAllows'. -/
def entryAllowsUptoCard : Claim7 := { stood := { row := entryAllowsUptoRow, standIns := [], harness := (true, "4b56d4a92dc2430943c527d40df0a88fd145529cd047b55e0dc7c84c6f10c691"), looks := true }, kinds := [], alts := [], laidByText := true, laidKinds := [.data, .data, .data, .sentinel, .sentinel], laidTests := true, laidLooks := .later }
def EntryAllowsUptoCardSaid : Prop := Claim7.holds Tryd.pinned (.plain (OpenSpec.upto entryAllowsSpec)) entryAllowsUptoCard
end Rows
end Go.Proofs.YtjfkgbpcfcfonaaDoor
