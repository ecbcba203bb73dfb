/-
  DERIVED. GIVEN WITH THE SEED: THE CARDS: each row of YtbbcajnbdebmfaaDoorRows.lean that lists a variable, with what it lists TIED to the program's text (the seventh form; the later family's looks); each row that meets fmt, with fmt's text TOLD by the authors' own Lean function (tested against real Go, not proved from fmt's source: count such statements apart). THE CARD IS WHAT COUNTS. Prove the row's statement (the work); the ties are given (YtbbcajnbdebmfaaDoorTie.lean); close each card by the builder's one call (the guide's Derived/Test/ToyasCard.lean, 'card_holds'). Laid BY PROGRAM, IN A SANDBOX (cutbox-door.mjs). By AI agents, Wed Nov 11 2026. No macro, syntax, notation, axiom, sorry.
-/
import Derived.Test.YtbbcajnbdebmfaaDoorRows
import GoSem.ClaimSeven
namespace Go.Proofs.YtbbcajnbdebmfaaDoor
namespace Rows

/-- THE TIED CARD OF 'aileronlaw18.BoardQueues'. -/
def boardQueuesCard : Claim7 := { stood := { row := boardQueuesRow, standIns := [], harness := (true, "665442f6c623d94aeca4b785e075c9134a476b3ee934b4f8f50f6c8be841b67b"), looks := true }, kinds := [], alts := [], laidByText := true, laidKinds := [.data, .data, .data, .pinned], laidTests := true, laidLooks := .later }
def BoardQueuesCardSaid : Prop := Claim7.holds Tryd.pinned (.plain (OpenSpec.ofChange boardQueuesSpec)) boardQueuesCard

/-- THE TIED CARD OF 'aileronlaw18.BoardCopies'. -/
def boardCopiesCard : Claim7 := { stood := { row := boardCopiesRow, standIns := [], harness := (true, "665442f6c623d94aeca4b785e075c9134a476b3ee934b4f8f50f6c8be841b67b"), looks := true }, kinds := [], alts := [], laidByText := true, laidKinds := [.data, .data, .data, .pinned], laidTests := true, laidLooks := .later }
def BoardCopiesCardSaid : Prop := Claim7.holds Tryd.pinned (.plain (OpenSpec.ofChange boardCopiesSpec)) boardCopiesCard

/-- THE TIED CARD OF 'aileronlaw18.BoardApart'. -/
def boardApartCard : Claim7 := { stood := { row := boardApartRow, standIns := [], harness := (true, "665442f6c623d94aeca4b785e075c9134a476b3ee934b4f8f50f6c8be841b67b"), looks := true }, kinds := [], alts := [], laidByText := true, laidKinds := [.data, .data, .data, .pinned], laidTests := true, laidLooks := .later }
def BoardApartCardSaid : Prop := Claim7.holds Tryd.pinned (.plain (OpenSpec.ofChange boardApartSpec)) boardApartCard

/-- THE TIED CARD OF 'aileronlaw18.BoardRefuses'. -/
def boardRefusesCard : Claim7 := { stood := { row := boardRefusesRow, standIns := [], harness := (true, "665442f6c623d94aeca4b785e075c9134a476b3ee934b4f8f50f6c8be841b67b"), looks := true }, kinds := [], alts := [], laidByText := true, laidKinds := [.data, .data, .data, .pinned], laidTests := true, laidLooks := .later }
def BoardRefusesCardSaid : Prop := Claim7.holds Tryd.pinned (.plain (OpenSpec.ofChange boardRefusesSpec)) boardRefusesCard

/-- THE TIED CARD OF 'aileronlaw18.BoardModes'. -/
def boardModesCard : Claim7 := { stood := { row := boardModesRow, standIns := [], harness := (true, "665442f6c623d94aeca4b785e075c9134a476b3ee934b4f8f50f6c8be841b67b"), looks := true }, kinds := [], alts := [], laidByText := true, laidKinds := [.data, .data, .data, .pinned], laidTests := true, laidLooks := .later }
def BoardModesCardSaid : Prop := Claim7.holds Tryd.pinned (.plain (OpenSpec.ofChange boardModesSpec)) boardModesCard

/-- THE TIED CARD OF 'aileronlaw18.BoardClones'. -/
def boardClonesCard : Claim7 := { stood := { row := boardClonesRow, standIns := [], harness := (true, "665442f6c623d94aeca4b785e075c9134a476b3ee934b4f8f50f6c8be841b67b"), looks := true }, kinds := [], alts := [], laidByText := true, laidKinds := [.data, .data, .data, .pinned], laidTests := true, laidLooks := .later }
def BoardClonesCardSaid : Prop := Claim7.holds Tryd.pinned (.plain (OpenSpec.ofChange boardClonesSpec)) boardClonesCard

/-- THE SECOND FORM's CARD OF 'aileronlaw18.BoardQueues'. -/
def boardQueuesUptoCard : Claim7 := { stood := { row := boardQueuesUptoRow, standIns := [], harness := (true, "665442f6c623d94aeca4b785e075c9134a476b3ee934b4f8f50f6c8be841b67b"), looks := true }, kinds := [], alts := [], laidByText := true, laidKinds := [.data, .data, .data, .pinned], laidTests := true, laidLooks := .later }
def BoardQueuesUptoCardSaid : Prop := Claim7.holds Tryd.pinned (.plain (OpenSpec.upto boardQueuesSpec)) boardQueuesUptoCard

/-- THE SECOND FORM's CARD OF 'aileronlaw18.BoardCopies'. -/
def boardCopiesUptoCard : Claim7 := { stood := { row := boardCopiesUptoRow, standIns := [], harness := (true, "665442f6c623d94aeca4b785e075c9134a476b3ee934b4f8f50f6c8be841b67b"), looks := true }, kinds := [], alts := [], laidByText := true, laidKinds := [.data, .data, .data, .pinned], laidTests := true, laidLooks := .later }
def BoardCopiesUptoCardSaid : Prop := Claim7.holds Tryd.pinned (.plain (OpenSpec.upto boardCopiesSpec)) boardCopiesUptoCard

/-- THE SECOND FORM's CARD OF 'aileronlaw18.BoardApart'. -/
def boardApartUptoCard : Claim7 := { stood := { row := boardApartUptoRow, standIns := [], harness := (true, "665442f6c623d94aeca4b785e075c9134a476b3ee934b4f8f50f6c8be841b67b"), looks := true }, kinds := [], alts := [], laidByText := true, laidKinds := [.data, .data, .data, .pinned], laidTests := true, laidLooks := .later }
def BoardApartUptoCardSaid : Prop := Claim7.holds Tryd.pinned (.plain (OpenSpec.upto boardApartSpec)) boardApartUptoCard

/-- THE SECOND FORM's CARD OF 'aileronlaw18.BoardRefuses'. -/
def boardRefusesUptoCard : Claim7 := { stood := { row := boardRefusesUptoRow, standIns := [], harness := (true, "665442f6c623d94aeca4b785e075c9134a476b3ee934b4f8f50f6c8be841b67b"), looks := true }, kinds := [], alts := [], laidByText := true, laidKinds := [.data, .data, .data, .pinned], laidTests := true, laidLooks := .later }
def BoardRefusesUptoCardSaid : Prop := Claim7.holds Tryd.pinned (.plain (OpenSpec.upto boardRefusesSpec)) boardRefusesUptoCard

/-- THE SECOND FORM's CARD OF 'aileronlaw18.BoardModes'. -/
def boardModesUptoCard : Claim7 := { stood := { row := boardModesUptoRow, standIns := [], harness := (true, "665442f6c623d94aeca4b785e075c9134a476b3ee934b4f8f50f6c8be841b67b"), looks := true }, kinds := [], alts := [], laidByText := true, laidKinds := [.data, .data, .data, .pinned], laidTests := true, laidLooks := .later }
def BoardModesUptoCardSaid : Prop := Claim7.holds Tryd.pinned (.plain (OpenSpec.upto boardModesSpec)) boardModesUptoCard

/-- THE SECOND FORM's CARD OF 'aileronlaw18.BoardClones'. -/
def boardClonesUptoCard : Claim7 := { stood := { row := boardClonesUptoRow, standIns := [], harness := (true, "665442f6c623d94aeca4b785e075c9134a476b3ee934b4f8f50f6c8be841b67b"), looks := true }, kinds := [], alts := [], laidByText := true, laidKinds := [.data, .data, .data, .pinned], laidTests := true, laidLooks := .later }
def BoardClonesUptoCardSaid : Prop := Claim7.holds Tryd.pinned (.plain (OpenSpec.upto boardClonesSpec)) boardClonesUptoCard
end Rows
end Go.Proofs.YtbbcajnbdebmfaaDoor
