/-
  DERIVED. GIVEN WITH THE SEED: THE CARDS: each row of YtkcpiokgcbkofaaGreatDoorRows.lean that lists a variable, with what it lists TIED to the program's text (the seventh form; the later family's looks); each row that meets fmt, with fmt's text TOLD by the authors' own Lean function (tested against real Go, not proved from fmt's source: count such statements apart). THE CARD IS WHAT COUNTS. Prove the row's statement (the work); the ties are given (YtkcpiokgcbkofaaGreatDoorTie.lean); close each card by the builder's one call (the guide's Derived/Test/ToyasCard.lean, 'card_holds'). Laid BY PROGRAM, IN A SANDBOX (cutbox-door.mjs). By AI agents, Wed Nov 11 2026. No macro, syntax, notation, axiom, sorry.
-/
import Derived.Test.YtkcpiokgcbkofaaGreatDoorRows
import GoSem.ClaimSeven
namespace Go.Proofs.YtkcpiokgcbkofaaGreatDoor
namespace Rows

/-- THE TIED CARD OF 'aileronlaw04.CodecTexts'. -/
def codecTextsCard : Claim7 := { stood := { row := codecTextsRow, standIns := [], harness := (true, "6e55d0e1f25dcb6d9605ae33851a985220a9a1dfb44c72f7b082182e540a6486"), looks := true }, kinds := [], alts := [], laidByText := true, laidKinds := [.data, .data, .data, .data, .sentinel, .sentinel, .pinned], laidTests := true, laidLooks := .later }
def CodecTextsCardSaid : Prop := Claim7.holds Tryz.pinned (.plain (OpenSpec.ofChange codecTextsSpec)) codecTextsCard

/-- THE SECOND FORM's CARD OF 'aileronlaw04.CodecTexts'. -/
def codecTextsUptoCard : Claim7 := { stood := { row := codecTextsUptoRow, standIns := [], harness := (true, "6e55d0e1f25dcb6d9605ae33851a985220a9a1dfb44c72f7b082182e540a6486"), looks := true }, kinds := [], alts := [], laidByText := true, laidKinds := [.data, .data, .data, .data, .sentinel, .sentinel, .pinned], laidTests := true, laidLooks := .later }
def CodecTextsUptoCardSaid : Prop := Claim7.holds Tryz.pinned (.plain (OpenSpec.upto codecTextsSpec)) codecTextsUptoCard
end Rows
end Go.Proofs.YtkcpiokgcbkofaaGreatDoor
