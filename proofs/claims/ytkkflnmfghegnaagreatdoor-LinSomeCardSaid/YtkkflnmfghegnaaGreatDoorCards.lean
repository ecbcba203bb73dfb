/-
  DERIVED. GIVEN WITH THE SEED: THE CARDS: each row of YtkkflnmfghegnaaGreatDoorRows.lean that lists a variable, with what it lists TIED to the program's text (the seventh form; the later family's looks); each row that meets fmt, with fmt's text TOLD by the authors' own Lean function (tested against real Go, not proved from fmt's source: count such statements apart). THE CARD IS WHAT COUNTS. Prove the row's statement (the work); the ties are given (YtkkflnmfghegnaaGreatDoorTie.lean); close each card by the builder's one call (the guide's Derived/Test/ToyasCard.lean, 'card_holds'). Laid BY PROGRAM, IN A SANDBOX (cutbox-door.mjs). By AI agents, Wed Nov 11 2026. No macro, syntax, notation, axiom, sorry.
-/
import Derived.Test.YtkkflnmfghegnaaGreatDoorRows
import GoSem.ClaimSeven
namespace Go.Proofs.YtkkflnmfghegnaaGreatDoor
namespace Rows

/-- THE TIED CARD OF 'aileronlaw19.LinTimes'. -/
def linTimesCard : Claim7 := { stood := { row := linTimesRow, standIns := [], harness := (true, "747566ee6cd08315feee42c2946848cb32b11956c7a14e4e946364338272d6e8"), looks := true }, kinds := [], alts := [], laidByText := true, laidKinds := [.data, .data, .data, .pinned], laidTests := true, laidLooks := .later }
def LinTimesCardSaid : Prop := Claim7.holds Tryz.pinned (.plain (OpenSpec.ofChange linTimesSpec)) linTimesCard

/-- THE TIED CARD OF 'aileronlaw19.LinLegal'. -/
def linLegalCard : Claim7 := { stood := { row := linLegalRow, standIns := [], harness := (true, "747566ee6cd08315feee42c2946848cb32b11956c7a14e4e946364338272d6e8"), looks := true }, kinds := [], alts := [], laidByText := true, laidKinds := [.data, .data, .data, .pinned], laidTests := true, laidLooks := .later }
def LinLegalCardSaid : Prop := Claim7.holds Tryz.pinned (.plain (OpenSpec.ofChange linLegalSpec)) linLegalCard

/-- THE TIED CARD OF 'aileronlaw19.LinRuns'. -/
def linRunsCard : Claim7 := { stood := { row := linRunsRow, standIns := [], harness := (true, "747566ee6cd08315feee42c2946848cb32b11956c7a14e4e946364338272d6e8"), looks := true }, kinds := [], alts := [], laidByText := true, laidKinds := [.data, .data, .data, .pinned], laidTests := true, laidLooks := .later }
def LinRunsCardSaid : Prop := Claim7.holds Tryz.pinned (.plain (OpenSpec.ofChange linRunsSpec)) linRunsCard

/-- THE TIED CARD OF 'aileronlaw19.LinEnds'. -/
def linEndsCard : Claim7 := { stood := { row := linEndsRow, standIns := [], harness := (true, "747566ee6cd08315feee42c2946848cb32b11956c7a14e4e946364338272d6e8"), looks := true }, kinds := [], alts := [], laidByText := true, laidKinds := [.data, .data, .data, .pinned], laidTests := true, laidLooks := .later }
def LinEndsCardSaid : Prop := Claim7.holds Tryz.pinned (.plain (OpenSpec.ofChange linEndsSpec)) linEndsCard

/-- THE TIED CARD OF 'aileronlaw19.LinSome'. -/
def linSomeCard : Claim7 := { stood := { row := linSomeRow, standIns := [], harness := (true, "747566ee6cd08315feee42c2946848cb32b11956c7a14e4e946364338272d6e8"), looks := true }, kinds := [], alts := [], laidByText := true, laidKinds := [.data, .data, .data, .pinned], laidTests := true, laidLooks := .later }
def LinSomeCardSaid : Prop := Claim7.holds Tryz.pinned (.plain (OpenSpec.ofChange linSomeSpec)) linSomeCard

/-- THE TIED CARD OF 'aileronlaw19.LinFinds'. -/
def linFindsCard : Claim7 := { stood := { row := linFindsRow, standIns := [], harness := (true, "747566ee6cd08315feee42c2946848cb32b11956c7a14e4e946364338272d6e8"), looks := true }, kinds := [], alts := [], laidByText := true, laidKinds := [.data, .data, .data, .pinned], laidTests := true, laidLooks := .later }
def LinFindsCardSaid : Prop := Claim7.holds Tryz.pinned (.plain (OpenSpec.ofChange linFindsSpec)) linFindsCard

/-- THE SECOND FORM's CARD OF 'aileronlaw19.LinTimes'. -/
def linTimesUptoCard : Claim7 := { stood := { row := linTimesUptoRow, standIns := [], harness := (true, "747566ee6cd08315feee42c2946848cb32b11956c7a14e4e946364338272d6e8"), looks := true }, kinds := [], alts := [], laidByText := true, laidKinds := [.data, .data, .data, .pinned], laidTests := true, laidLooks := .later }
def LinTimesUptoCardSaid : Prop := Claim7.holds Tryz.pinned (.plain (OpenSpec.upto linTimesSpec)) linTimesUptoCard

/-- THE SECOND FORM's CARD OF 'aileronlaw19.LinLegal'. -/
def linLegalUptoCard : Claim7 := { stood := { row := linLegalUptoRow, standIns := [], harness := (true, "747566ee6cd08315feee42c2946848cb32b11956c7a14e4e946364338272d6e8"), looks := true }, kinds := [], alts := [], laidByText := true, laidKinds := [.data, .data, .data, .pinned], laidTests := true, laidLooks := .later }
def LinLegalUptoCardSaid : Prop := Claim7.holds Tryz.pinned (.plain (OpenSpec.upto linLegalSpec)) linLegalUptoCard

/-- THE SECOND FORM's CARD OF 'aileronlaw19.LinRuns'. -/
def linRunsUptoCard : Claim7 := { stood := { row := linRunsUptoRow, standIns := [], harness := (true, "747566ee6cd08315feee42c2946848cb32b11956c7a14e4e946364338272d6e8"), looks := true }, kinds := [], alts := [], laidByText := true, laidKinds := [.data, .data, .data, .pinned], laidTests := true, laidLooks := .later }
def LinRunsUptoCardSaid : Prop := Claim7.holds Tryz.pinned (.plain (OpenSpec.upto linRunsSpec)) linRunsUptoCard

/-- THE SECOND FORM's CARD OF 'aileronlaw19.LinEnds'. -/
def linEndsUptoCard : Claim7 := { stood := { row := linEndsUptoRow, standIns := [], harness := (true, "747566ee6cd08315feee42c2946848cb32b11956c7a14e4e946364338272d6e8"), looks := true }, kinds := [], alts := [], laidByText := true, laidKinds := [.data, .data, .data, .pinned], laidTests := true, laidLooks := .later }
def LinEndsUptoCardSaid : Prop := Claim7.holds Tryz.pinned (.plain (OpenSpec.upto linEndsSpec)) linEndsUptoCard

/-- THE SECOND FORM's CARD OF 'aileronlaw19.LinSome'. -/
def linSomeUptoCard : Claim7 := { stood := { row := linSomeUptoRow, standIns := [], harness := (true, "747566ee6cd08315feee42c2946848cb32b11956c7a14e4e946364338272d6e8"), looks := true }, kinds := [], alts := [], laidByText := true, laidKinds := [.data, .data, .data, .pinned], laidTests := true, laidLooks := .later }
def LinSomeUptoCardSaid : Prop := Claim7.holds Tryz.pinned (.plain (OpenSpec.upto linSomeSpec)) linSomeUptoCard

/-- THE SECOND FORM's CARD OF 'aileronlaw19.LinFinds'. -/
def linFindsUptoCard : Claim7 := { stood := { row := linFindsUptoRow, standIns := [], harness := (true, "747566ee6cd08315feee42c2946848cb32b11956c7a14e4e946364338272d6e8"), looks := true }, kinds := [], alts := [], laidByText := true, laidKinds := [.data, .data, .data, .pinned], laidTests := true, laidLooks := .later }
def LinFindsUptoCardSaid : Prop := Claim7.holds Tryz.pinned (.plain (OpenSpec.upto linFindsSpec)) linFindsUptoCard
end Rows
end Go.Proofs.YtkkflnmfghegnaaGreatDoor
