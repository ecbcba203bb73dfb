/-
  What the frames of this seat's claims share: the witness's world; an argument that is a config, opened. Conditions: none.
-/
import Derived.Test.YtelacngphgebiaaDoorCards
import Derived.Test.YtelacngphgebiaaDoorTie
import Derived.Test.YtelacngphgebiaaDoorGPlain
import Derived.WalkKit
import Derived.Shelf.Vars
import Derived.ProofKit
import Derived.OpenShut
import Derived.LaidMore
import Derived.Carry
import Derived.Deep.SlicePairs
import Derived.Deep.DeepHandedRow
import Derived.Deep.DeepWitnessRowRef
namespace Go.Proofs.YtelacngphgebiaaDoor
open Go.ChangeShapes Go.WideShapes Go.ChangeAt Go.RowKit Go.Deep

theorem own : ownKnob Tryd.prog.godebug = none := by kernel_rfl
theorem laidOut : laidOutB Tryd.prog = true := by kernel_rfl

/-- The witness's world: the door's own, the pinned table laid. -/
noncomputable def laidWorld (os : Os) : World :=
  let w0 := World.doorLaid Tryd.prog 400 os
  { w0 with heap := w0.heap.modify ((Tryd.prog.globalNamed "unicode/utf8.first").getD 0) fun
    | .cells _ t frozen => .cells (Go.Pinned.utf8FirstZ.map fun z : Nat => Value.int .u8 (z : Int)).toArray t frozen
    | o => o }

/-- What the library's one variable holds. -/
theorem maxlen_int {W : World} (h : W.ShapedOpen Tryd.prog) : ∃ mx, W.cell? ⟨0, 0, none⟩ = some (.int .i64 mx) :=
  cell_of_shapedOpen_int (zero := #[.int .i64 0]) (t := 3) h (of_decide_eq_true (by kernel_rfl)) (g := 0) (by kernel_rfl) rfl (by kernel_rfl) (by kernel_rfl) Tryd.underlying3

end Go.Proofs.YtelacngphgebiaaDoor
