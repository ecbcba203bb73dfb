/-
  DERIVED. GIVEN WITH THE SEED: THE CARDS: each row of YtkcpiokgcbkofaaDoorRows.lean that lists a variable, with what it lists TIED to the program's text (the seventh form; the later family's looks); each row that meets fmt, with fmt's text TOLD by the authors' own Lean function (tested against real Go, not proved from fmt's source: count such statements apart). THE CARD IS WHAT COUNTS. Prove the row's statement (the work); the ties are given (YtkcpiokgcbkofaaDoorTie.lean); close each card by the builder's one call (the guide's Derived/Test/ToyasCard.lean, 'card_holds'). Laid BY PROGRAM, IN A SANDBOX (cutbox-door.mjs). By AI agents, Wed Nov 11 2026. No macro, syntax, notation, axiom, sorry.
-/
import Derived.Test.YtkcpiokgcbkofaaDoorRows
import GoSem.ClaimSeven
namespace Go.Proofs.YtkcpiokgcbkofaaDoor
namespace Rows

/-- THE TIED CARD OF 'aileronlaw04.CodecPlaces'. -/
def codecPlacesCard : Claim7 := { stood := { row := codecPlacesRow, standIns := [], harness := (true, "0f52f8a02f481235e06761c3d815e10288ea05075102a952e1c0af335ddde85e"), looks := true }, kinds := [], alts := [], laidByText := true, laidKinds := [.data, .data, .data], laidTests := true, laidLooks := .later }
def CodecPlacesCardSaid : Prop := Claim7.holds Tryd.pinned (.plain (OpenSpec.ofChange codecPlacesSpec)) codecPlacesCard

/-- THE TIED CARD OF 'aileronlaw04.CodecBegins'. -/
def codecBeginsCard : Claim7 := { stood := { row := codecBeginsRow, standIns := [], harness := (true, "0f52f8a02f481235e06761c3d815e10288ea05075102a952e1c0af335ddde85e"), looks := true }, kinds := [], alts := [], laidByText := true, laidKinds := [.data, .data, .data], laidTests := true, laidLooks := .later }
def CodecBeginsCardSaid : Prop := Claim7.holds Tryd.pinned (.plain (OpenSpec.ofChange codecBeginsSpec)) codecBeginsCard

/-- THE TIED CARD OF 'aileronlaw04.CodecDecodes'. -/
def codecDecodesCard : Claim7 := { stood := { row := codecDecodesRow, standIns := [], harness := (true, "0f52f8a02f481235e06761c3d815e10288ea05075102a952e1c0af335ddde85e"), looks := true }, kinds := [], alts := [], laidByText := true, laidKinds := [.data, .data, .data], laidTests := true, laidLooks := .later }
def CodecDecodesCardSaid : Prop := Claim7.holds Tryd.pinned (.plain (OpenSpec.ofChange codecDecodesSpec)) codecDecodesCard

/-- THE TIED CARD OF 'aileronlaw04.CodecReads'. -/
def codecReadsCard : Claim7 := { stood := { row := codecReadsRow, standIns := [], harness := (true, "0f52f8a02f481235e06761c3d815e10288ea05075102a952e1c0af335ddde85e"), looks := true }, kinds := [], alts := [], laidByText := true, laidKinds := [.data, .data, .data, .data, .sentinel, .sentinel, .pinned], laidTests := true, laidLooks := .later }
def CodecReadsCardSaid : Prop := Claim7.holds Tryd.pinned (.plain (OpenSpec.ofChange codecReadsSpec)) codecReadsCard

/-- THE SECOND FORM's CARD OF 'aileronlaw04.CodecPlaces'. -/
def codecPlacesUptoCard : Claim7 := { stood := { row := codecPlacesUptoRow, standIns := [], harness := (true, "0f52f8a02f481235e06761c3d815e10288ea05075102a952e1c0af335ddde85e"), looks := true }, kinds := [], alts := [], laidByText := true, laidKinds := [.data, .data, .data], laidTests := true, laidLooks := .later }
def CodecPlacesUptoCardSaid : Prop := Claim7.holds Tryd.pinned (.plain (OpenSpec.upto codecPlacesSpec)) codecPlacesUptoCard

/-- THE SECOND FORM's CARD OF 'aileronlaw04.CodecBegins'. -/
def codecBeginsUptoCard : Claim7 := { stood := { row := codecBeginsUptoRow, standIns := [], harness := (true, "0f52f8a02f481235e06761c3d815e10288ea05075102a952e1c0af335ddde85e"), looks := true }, kinds := [], alts := [], laidByText := true, laidKinds := [.data, .data, .data], laidTests := true, laidLooks := .later }
def CodecBeginsUptoCardSaid : Prop := Claim7.holds Tryd.pinned (.plain (OpenSpec.upto codecBeginsSpec)) codecBeginsUptoCard

/-- THE SECOND FORM's CARD OF 'aileronlaw04.CodecDecodes'. -/
def codecDecodesUptoCard : Claim7 := { stood := { row := codecDecodesUptoRow, standIns := [], harness := (true, "0f52f8a02f481235e06761c3d815e10288ea05075102a952e1c0af335ddde85e"), looks := true }, kinds := [], alts := [], laidByText := true, laidKinds := [.data, .data, .data], laidTests := true, laidLooks := .later }
def CodecDecodesUptoCardSaid : Prop := Claim7.holds Tryd.pinned (.plain (OpenSpec.upto codecDecodesSpec)) codecDecodesUptoCard

/-- THE SECOND FORM's CARD OF 'aileronlaw04.CodecReads'. -/
def codecReadsUptoCard : Claim7 := { stood := { row := codecReadsUptoRow, standIns := [], harness := (true, "0f52f8a02f481235e06761c3d815e10288ea05075102a952e1c0af335ddde85e"), looks := true }, kinds := [], alts := [], laidByText := true, laidKinds := [.data, .data, .data, .data, .sentinel, .sentinel, .pinned], laidTests := true, laidLooks := .later }
def CodecReadsUptoCardSaid : Prop := Claim7.holds Tryd.pinned (.plain (OpenSpec.upto codecReadsSpec)) codecReadsUptoCard
end Rows
end Go.Proofs.YtkcpiokgcbkofaaDoor
