/-
  DERIVED. GIVEN WITH THE SEED: THE CARDS: each row of YtelacngphgebiaaDoorRows.lean that lists a variable, with what it lists TIED to the program's text (the seventh form; the later family's looks); each row that meets fmt, with fmt's text TOLD by the authors' own Lean function (tested against real Go, not proved from fmt's source: count such statements apart). THE CARD IS WHAT COUNTS. Prove the row's statement (the work); the ties are given (YtelacngphgebiaaDoorTie.lean); close each card by the builder's one call (the guide's Derived/Test/ToyasCard.lean, 'card_holds'). Laid BY PROGRAM, IN A SANDBOX (cutbox-door.mjs). By AI agents, Wed Nov 11 2026. No macro, syntax, notation, axiom, sorry.
-/
import Derived.Test.YtelacngphgebiaaDoorRows
import GoSem.ClaimSeven
namespace Go.Proofs.YtelacngphgebiaaDoor
namespace Rows

/-- THE TIED CARD OF 'aileronlaw05.ConfigChecks'. -/
def configChecksCard : Claim7 := { stood := { row := configChecksRow, standIns := [], harness := (true, "5bb8de7594fc4e85c23274a6d1ba02d19a56cf9ff7997a692f3c36c30ea15e79"), looks := true }, kinds := [], alts := [], laidByText := true, laidKinds := [.data, .data, .data, .data, .sentinel, .sentinel, .pinned], laidTests := true, laidLooks := .later }
def ConfigChecksCardSaid : Prop := Claim7.holds Tryd.pinned (.plain (OpenSpec.ofChange configChecksSpec)) configChecksCard

/-- THE TIED CARD OF 'aileronlaw05.ConfigNames'. -/
def configNamesCard : Claim7 := { stood := { row := configNamesRow, standIns := [], harness := (true, "5bb8de7594fc4e85c23274a6d1ba02d19a56cf9ff7997a692f3c36c30ea15e79"), looks := true }, kinds := [], alts := [], laidByText := true, laidKinds := [.data, .data, .data, .data, .sentinel, .sentinel, .pinned], laidTests := true, laidLooks := .later }
def ConfigNamesCardSaid : Prop := Claim7.holds Tryd.pinned (.plain (OpenSpec.ofChange configNamesSpec)) configNamesCard

/-- THE TIED CARD OF 'aileronlaw05.ConfigParses'. -/
def configParsesCard : Claim7 := { stood := { row := configParsesRow, standIns := [], harness := (true, "5bb8de7594fc4e85c23274a6d1ba02d19a56cf9ff7997a692f3c36c30ea15e79"), looks := true }, kinds := [], alts := [], laidByText := true, laidKinds := [.data, .data, .data, .data, .sentinel, .sentinel, .pinned], laidTests := true, laidLooks := .later }
def ConfigParsesCardSaid : Prop := Claim7.holds Tryd.pinned (.plain (OpenSpec.ofChange configParsesSpec)) configParsesCard

/-- THE TIED CARD OF 'aileronlaw05.ConfigFinds'. -/
def configFindsCard : Claim7 := { stood := { row := configFindsRow, standIns := [], harness := (true, "5bb8de7594fc4e85c23274a6d1ba02d19a56cf9ff7997a692f3c36c30ea15e79"), looks := true }, kinds := [], alts := [], laidByText := true, laidKinds := [.data, .data, .data, .data, .sentinel, .sentinel, .pinned], laidTests := true, laidLooks := .later }
def ConfigFindsCardSaid : Prop := Claim7.holds Tryd.pinned (.plain (OpenSpec.ofChange configFindsSpec)) configFindsCard

/-- THE TIED CARD OF 'aileronlaw05.ConfigLess'. -/
def configLessCard : Claim7 := { stood := { row := configLessRow, standIns := [], harness := (true, "5bb8de7594fc4e85c23274a6d1ba02d19a56cf9ff7997a692f3c36c30ea15e79"), looks := true }, kinds := [], alts := [], laidByText := true, laidKinds := [.data, .data, .data, .data, .sentinel, .sentinel, .pinned], laidTests := true, laidLooks := .later }
def ConfigLessCardSaid : Prop := Claim7.holds Tryd.pinned (.plain (OpenSpec.ofChange configLessSpec)) configLessCard

/-- THE TIED CARD OF 'aileronlaw05.ConfigPrints'. -/
def configPrintsCard : Claim7 := { stood := { row := configPrintsRow, standIns := [], harness := (true, "5bb8de7594fc4e85c23274a6d1ba02d19a56cf9ff7997a692f3c36c30ea15e79"), looks := true }, kinds := [], alts := [], laidByText := true, laidKinds := [.data, .data, .data, .data, .sentinel, .sentinel, .pinned], laidTests := true, laidLooks := .later }
def ConfigPrintsCardSaid : Prop := Claim7.holds Tryd.pinned (.plain (OpenSpec.ofChange configPrintsSpec)) configPrintsCard

/-- THE TIED CARD OF 'aileronlaw05.ConfigBack'. -/
def configBackCard : Claim7 := { stood := { row := configBackRow, standIns := [], harness := (true, "5bb8de7594fc4e85c23274a6d1ba02d19a56cf9ff7997a692f3c36c30ea15e79"), looks := true }, kinds := [], alts := [], laidByText := true, laidKinds := [.data, .data, .data, .data, .sentinel, .sentinel, .pinned], laidTests := true, laidLooks := .later }
def ConfigBackCardSaid : Prop := Claim7.holds Tryd.pinned (.plain (OpenSpec.ofChange configBackSpec)) configBackCard

/-- THE SECOND FORM's CARD OF 'aileronlaw05.ConfigChecks'. -/
def configChecksUptoCard : Claim7 := { stood := { row := configChecksUptoRow, standIns := [], harness := (true, "5bb8de7594fc4e85c23274a6d1ba02d19a56cf9ff7997a692f3c36c30ea15e79"), looks := true }, kinds := [], alts := [], laidByText := true, laidKinds := [.data, .data, .data, .data, .sentinel, .sentinel, .pinned], laidTests := true, laidLooks := .later }
def ConfigChecksUptoCardSaid : Prop := Claim7.holds Tryd.pinned (.plain (OpenSpec.upto configChecksSpec)) configChecksUptoCard

/-- THE SECOND FORM's CARD OF 'aileronlaw05.ConfigNames'. -/
def configNamesUptoCard : Claim7 := { stood := { row := configNamesUptoRow, standIns := [], harness := (true, "5bb8de7594fc4e85c23274a6d1ba02d19a56cf9ff7997a692f3c36c30ea15e79"), looks := true }, kinds := [], alts := [], laidByText := true, laidKinds := [.data, .data, .data, .data, .sentinel, .sentinel, .pinned], laidTests := true, laidLooks := .later }
def ConfigNamesUptoCardSaid : Prop := Claim7.holds Tryd.pinned (.plain (OpenSpec.upto configNamesSpec)) configNamesUptoCard

/-- THE SECOND FORM's CARD OF 'aileronlaw05.ConfigParses'. -/
def configParsesUptoCard : Claim7 := { stood := { row := configParsesUptoRow, standIns := [], harness := (true, "5bb8de7594fc4e85c23274a6d1ba02d19a56cf9ff7997a692f3c36c30ea15e79"), looks := true }, kinds := [], alts := [], laidByText := true, laidKinds := [.data, .data, .data, .data, .sentinel, .sentinel, .pinned], laidTests := true, laidLooks := .later }
def ConfigParsesUptoCardSaid : Prop := Claim7.holds Tryd.pinned (.plain (OpenSpec.upto configParsesSpec)) configParsesUptoCard

/-- THE SECOND FORM's CARD OF 'aileronlaw05.ConfigFinds'. -/
def configFindsUptoCard : Claim7 := { stood := { row := configFindsUptoRow, standIns := [], harness := (true, "5bb8de7594fc4e85c23274a6d1ba02d19a56cf9ff7997a692f3c36c30ea15e79"), looks := true }, kinds := [], alts := [], laidByText := true, laidKinds := [.data, .data, .data, .data, .sentinel, .sentinel, .pinned], laidTests := true, laidLooks := .later }
def ConfigFindsUptoCardSaid : Prop := Claim7.holds Tryd.pinned (.plain (OpenSpec.upto configFindsSpec)) configFindsUptoCard

/-- THE SECOND FORM's CARD OF 'aileronlaw05.ConfigLess'. -/
def configLessUptoCard : Claim7 := { stood := { row := configLessUptoRow, standIns := [], harness := (true, "5bb8de7594fc4e85c23274a6d1ba02d19a56cf9ff7997a692f3c36c30ea15e79"), looks := true }, kinds := [], alts := [], laidByText := true, laidKinds := [.data, .data, .data, .data, .sentinel, .sentinel, .pinned], laidTests := true, laidLooks := .later }
def ConfigLessUptoCardSaid : Prop := Claim7.holds Tryd.pinned (.plain (OpenSpec.upto configLessSpec)) configLessUptoCard

/-- THE SECOND FORM's CARD OF 'aileronlaw05.ConfigPrints'. -/
def configPrintsUptoCard : Claim7 := { stood := { row := configPrintsUptoRow, standIns := [], harness := (true, "5bb8de7594fc4e85c23274a6d1ba02d19a56cf9ff7997a692f3c36c30ea15e79"), looks := true }, kinds := [], alts := [], laidByText := true, laidKinds := [.data, .data, .data, .data, .sentinel, .sentinel, .pinned], laidTests := true, laidLooks := .later }
def ConfigPrintsUptoCardSaid : Prop := Claim7.holds Tryd.pinned (.plain (OpenSpec.upto configPrintsSpec)) configPrintsUptoCard

/-- THE SECOND FORM's CARD OF 'aileronlaw05.ConfigBack'. -/
def configBackUptoCard : Claim7 := { stood := { row := configBackUptoRow, standIns := [], harness := (true, "5bb8de7594fc4e85c23274a6d1ba02d19a56cf9ff7997a692f3c36c30ea15e79"), looks := true }, kinds := [], alts := [], laidByText := true, laidKinds := [.data, .data, .data, .data, .sentinel, .sentinel, .pinned], laidTests := true, laidLooks := .later }
def ConfigBackUptoCardSaid : Prop := Claim7.holds Tryd.pinned (.plain (OpenSpec.upto configBackSpec)) configBackUptoCard
end Rows
end Go.Proofs.YtelacngphgebiaaDoor
