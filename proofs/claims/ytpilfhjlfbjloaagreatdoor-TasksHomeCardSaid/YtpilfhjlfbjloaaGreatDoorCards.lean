/-
  DERIVED. GIVEN WITH THE SEED: THE CARDS: each row of YtpilfhjlfbjloaaGreatDoorRows.lean that lists a variable, with what it lists TIED to the program's text (the seventh form; the later family's looks); each row that meets fmt, with fmt's text TOLD by the authors' own Lean function (tested against real Go, not proved from fmt's source: count such statements apart). THE CARD IS WHAT COUNTS. Prove the row's statement (the work); the ties are given (YtpilfhjlfbjloaaGreatDoorTie.lean); close each card by the builder's one call (the guide's Derived/Test/ToyasCard.lean, 'card_holds'). Laid BY PROGRAM, IN A SANDBOX (cutbox-door.mjs). By AI agents, Wed Nov 11 2026. No macro, syntax, notation, axiom, sorry.
-/
import Derived.Test.YtpilfhjlfbjloaaGreatDoorRows
import GoSem.ClaimSeven
namespace Go.Proofs.YtpilfhjlfbjloaaGreatDoor
namespace Rows

/-- THE TIED CARD OF 'aileronlaw23.TasksHome'. -/
def tasksHomeCard : Claim7 := { stood := { row := tasksHomeRow, standIns := [], harness := (true, "000cdfd486dfb7d6fe2c5e59c9a1531adf39bdb6c79f643298b7bf85688e5170"), looks := false }, kinds := [], alts := [], laidByText := true, laidKinds := [.data, .data, .data, .pinned], laidTests := true, laidLooks := .later }
def TasksHomeCardSaid : Prop := Claim7.holds Tryz.pinned (.plain (OpenSpec.ofChange tasksHomeSpec)) tasksHomeCard

/-- THE TIED CARD OF 'aileronlaw23.TasksBoard'. -/
def tasksBoardCard : Claim7 := { stood := { row := tasksBoardRow, standIns := [], harness := (true, "000cdfd486dfb7d6fe2c5e59c9a1531adf39bdb6c79f643298b7bf85688e5170"), looks := false }, kinds := [], alts := [], laidByText := true, laidKinds := [.data, .data, .data, .pinned], laidTests := true, laidLooks := .later }
def TasksBoardCardSaid : Prop := Claim7.holds Tryz.pinned (.plain (OpenSpec.ofChange tasksBoardSpec)) tasksBoardCard

/-- THE SECOND FORM's CARD OF 'aileronlaw23.TasksHome'. -/
def tasksHomeUptoCard : Claim7 := { stood := { row := tasksHomeUptoRow, standIns := [], harness := (true, "000cdfd486dfb7d6fe2c5e59c9a1531adf39bdb6c79f643298b7bf85688e5170"), looks := false }, kinds := [], alts := [], laidByText := true, laidKinds := [.data, .data, .data, .pinned], laidTests := true, laidLooks := .later }
def TasksHomeUptoCardSaid : Prop := Claim7.holds Tryz.pinned (.plain (OpenSpec.upto tasksHomeSpec)) tasksHomeUptoCard

/-- THE SECOND FORM's CARD OF 'aileronlaw23.TasksBoard'. -/
def tasksBoardUptoCard : Claim7 := { stood := { row := tasksBoardUptoRow, standIns := [], harness := (true, "000cdfd486dfb7d6fe2c5e59c9a1531adf39bdb6c79f643298b7bf85688e5170"), looks := false }, kinds := [], alts := [], laidByText := true, laidKinds := [.data, .data, .data, .pinned], laidTests := true, laidLooks := .later }
def TasksBoardUptoCardSaid : Prop := Claim7.holds Tryz.pinned (.plain (OpenSpec.upto tasksBoardSpec)) tasksBoardUptoCard
end Rows
end Go.Proofs.YtpilfhjlfbjloaaGreatDoor
