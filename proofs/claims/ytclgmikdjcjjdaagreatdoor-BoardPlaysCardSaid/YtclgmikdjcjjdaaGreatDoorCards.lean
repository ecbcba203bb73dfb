/-
  DERIVED. GIVEN WITH THE SEED: THE CARDS: each row of YtclgmikdjcjjdaaGreatDoorRows.lean that lists a variable, with what it lists TIED to the program's text (the seventh form; the later family's looks); each row that meets fmt, with fmt's text TOLD by the authors' own Lean function (tested against real Go, not proved from fmt's source: count such statements apart). THE CARD IS WHAT COUNTS. Prove the row's statement (the work); the ties are given (YtclgmikdjcjjdaaGreatDoorTie.lean); close each card by the builder's one call (the guide's Derived/Test/ToyasCard.lean, 'card_holds'). Laid BY PROGRAM, IN A SANDBOX (cutbox-door.mjs). By AI agents, Wed Nov 11 2026. No macro, syntax, notation, axiom, sorry.
-/
import Derived.Test.YtclgmikdjcjjdaaGreatDoorRows
import GoSem.ClaimSeven
namespace Go.Proofs.YtclgmikdjcjjdaaGreatDoor
namespace Rows

/-- THE TIED CARD OF 'aileronlaw18.BoardPlays'. -/
def boardPlaysCard : Claim7 := { stood := { row := boardPlaysRow, standIns := [], harness := (true, "f5bd33a80da52dff8425b79d664a458839bd10b607788389435eca950839b7ab"), looks := false }, kinds := [], alts := [], laidByText := true, laidKinds := [.data, .data, .data, .pinned], laidTests := true, laidLooks := .later }
def BoardPlaysCardSaid : Prop := Claim7.holds Tryz.pinned (.plain (OpenSpec.ofChange boardPlaysSpec)) boardPlaysCard

/-- THE SECOND FORM's CARD OF 'aileronlaw18.BoardPlays'. -/
def boardPlaysUptoCard : Claim7 := { stood := { row := boardPlaysUptoRow, standIns := [], harness := (true, "f5bd33a80da52dff8425b79d664a458839bd10b607788389435eca950839b7ab"), looks := false }, kinds := [], alts := [], laidByText := true, laidKinds := [.data, .data, .data, .pinned], laidTests := true, laidLooks := .later }
def BoardPlaysUptoCardSaid : Prop := Claim7.holds Tryz.pinned (.plain (OpenSpec.upto boardPlaysSpec)) boardPlaysUptoCard
end Rows
end Go.Proofs.YtclgmikdjcjjdaaGreatDoor
