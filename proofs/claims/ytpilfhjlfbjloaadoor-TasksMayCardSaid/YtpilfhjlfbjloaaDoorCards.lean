/-
  DERIVED. GIVEN WITH THE SEED: THE CARDS: each row of YtpilfhjlfbjloaaDoorRows.lean that lists a variable, with what it lists TIED to the program's text (the seventh form; the later family's looks); each row that meets fmt, with fmt's text TOLD by the authors' own Lean function (tested against real Go, not proved from fmt's source: count such statements apart). THE CARD IS WHAT COUNTS. Prove the row's statement (the work); the ties are given (YtpilfhjlfbjloaaDoorTie.lean); close each card by the builder's one call (the guide's Derived/Test/ToyasCard.lean, 'card_holds'). Laid BY PROGRAM, IN A SANDBOX (cutbox-door.mjs). By AI agents, Wed Nov 11 2026. No macro, syntax, notation, axiom, sorry.
-/
import Derived.Test.YtpilfhjlfbjloaaDoorRows
import GoSem.ClaimSeven
namespace Go.Proofs.YtpilfhjlfbjloaaDoor
namespace Rows

/-- THE TIED CARD OF 'aileronlaw23.TasksMay'. -/
def tasksMayCard : Claim7 := { stood := { row := tasksMayRow, standIns := [], harness := (true, "464df6c7d4e6d66139f332e9d55f32fc4b010eaff1adceee042ee091b175a607"), looks := false }, kinds := [], alts := [], laidByText := true, laidKinds := [.data], laidTests := true, laidLooks := .later }
def TasksMayCardSaid : Prop := Claim7.holds Tryd.pinned (.plain (OpenSpec.ofChange tasksMaySpec)) tasksMayCard

/-- THE SECOND FORM's CARD OF 'aileronlaw23.TasksMay'. -/
def tasksMayUptoCard : Claim7 := { stood := { row := tasksMayUptoRow, standIns := [], harness := (true, "464df6c7d4e6d66139f332e9d55f32fc4b010eaff1adceee042ee091b175a607"), looks := false }, kinds := [], alts := [], laidByText := true, laidKinds := [.data], laidTests := true, laidLooks := .later }
def TasksMayUptoCardSaid : Prop := Claim7.holds Tryd.pinned (.plain (OpenSpec.upto tasksMaySpec)) tasksMayUptoCard
end Rows
end Go.Proofs.YtpilfhjlfbjloaaDoor
