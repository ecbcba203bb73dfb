/-
  Events that are written out: rules for building one, and rows of them. Conditions: none.
-/
import Derived.Test.YtkkflnmfghegnaaGreatDoorLSmall
namespace Go.Proofs.YtkkflnmfghegnaaGreatDoor
open Go.RowKit

def buildEv (ps : Array (Nat × Value)) : Sem Value := Instr.build 38 ps
def buildEvs (n : Nat) (ps : Array (Nat × Value)) : Sem Value := Instr.buildSlice 24 n ps
@[go_sem ↓] theorem build_ev (ps : Array (Nat × Value)) : Instr.build 38 ps = buildEv ps := rfl
@[go_sem ↓] theorem build_evs (n : Nat) (ps : Array (Nat × Value)) : Instr.buildSlice 24 n ps = buildEvs n ps := rfl

/-- The example's three events. -/
def ev1 : Em := ⟨⟨0, ⟨0, 0, 0, 0, 0, 0, 0, 0, false, [], []⟩, ⟨0, 0, 0, 0, 0, ⟨0, 0, false, 0, 0⟩, [], []⟩, 1, 1, 1⟩, none, 0, none, 0, none, 0, none, 0⟩
def ev2 (g : Nat) : Em := ⟨⟨0, ⟨1, 0, 0, 0, 0, 0, 0, 0, false, [], [5]⟩, ⟨0, 0, 1, 0, 0, ⟨0, 0, false, 0, 0⟩, [], []⟩, 2, 5, 5⟩, none, 0, some ⟨g, 0, none⟩, 1, none, 0, none, 0⟩
def ev3 (g : Nat) : Em := ⟨⟨1, ⟨2, 0, 0, 0, 0, 0, 0, 0, false, [], []⟩, ⟨0, 0, 0, 0, 0, ⟨0, 0, false, 0, 0⟩, [], [0]⟩, 3, 4, 6⟩, none, 0, none, 0, none, 0, some ⟨g, 0, none⟩, 1⟩
/-- An event of times alone. -/
def evT (t f a o : Int) : Em := ⟨⟨t, ⟨0, 0, 0, 0, 0, 0, 0, 0, false, [], []⟩, ⟨0, 0, 0, 0, 0, ⟨0, 0, false, 0, 0⟩, [], []⟩, f, a, o⟩, none, 0, none, 0, none, 0, none, 0⟩

@[simp] theorem run_build1 (w : World) : (buildEv #[(0, .int .i64 0), (1, .agg #[.int .i64 0, .int .i64 0, .int .i64 0, .int .i64 0, .int .i64 0, .int .i64 0, .int .i64 0, .int .i64 0, .bool false, .slice none 0 0, .slice none 0 0]), (3, .int .i64 1), (4, .int .i64 1), (5, .int .i64 1)]).run Tryz.prog w = .ok (evV ev1) w := by
  kernel_rfl
@[simp] theorem run_build2 (w : World) (g : Nat) : (buildEv #[(0, .int .i64 0), (1, .agg #[.int .i64 1, .int .i64 0, .int .i64 0, .int .i64 0, .int .i64 0, .int .i64 0, .int .i64 0, .int .i64 0, .bool false, .slice none 0 0, .slice (some ⟨g, 0, none⟩) 1 1]), (2, .agg #[.int .i64 0, .int .i64 0, .int .u64 1, .int .i64 0, .int .u64 0, .int .i64 0, .int .i64 0, .bool false, .int .i64 0, .int .u64 0, .slice none 0 0, .slice none 0 0]), (3, .int .i64 2), (4, .int .i64 5), (5, .int .i64 5)]).run Tryz.prog w = .ok (evV (ev2 g)) w := by
  kernel_rfl
@[simp] theorem run_build3 (w : World) (g : Nat) : (buildEv #[(0, .int .i64 1), (1, .agg #[.int .i64 2, .int .i64 0, .int .i64 0, .int .i64 0, .int .i64 0, .int .i64 0, .int .i64 0, .int .i64 0, .bool false, .slice none 0 0, .slice none 0 0]), (2, .agg #[.int .i64 0, .int .i64 0, .int .u64 0, .int .i64 0, .int .u64 0, .int .i64 0, .int .i64 0, .bool false, .int .i64 0, .int .u64 0, .slice none 0 0, .slice (some ⟨g, 0, none⟩) 1 1]), (3, .int .i64 3), (4, .int .i64 4), (5, .int .i64 6)]).run Tryz.prog w = .ok (evV (ev3 g)) w := by
  kernel_rfl
@[simp] theorem run_buildT (w : World) (t f a o : Int) : (buildEv #[(0, .int .i64 t), (3, .int .i64 f), (4, .int .i64 a), (5, .int .i64 o)]).run Tryz.prog w = .ok (evV (evT t f a o)) w := by
  kernel_rfl
@[simp] theorem run_builds3 (w : World) (a b c : Em) : (buildEvs 3 #[(0, evV a), (1, evV b), (2, evV c)]).run Tryz.prog w = .ok (.slice (some ⟨w.heap.size, 0, none⟩) 3 3) (w.alloc (.cells (flatE [a, b, c]).toArray 38)) := by
  kernel_rfl
@[simp] theorem run_builds1 (w : World) (a : Em) : (buildEvs 1 #[(0, evV a)]).run Tryz.prog w = .ok (.slice (some ⟨w.heap.size, 0, none⟩) 1 1) (w.alloc (.cells (evC a) 38)) := by
  kernel_rfl
@[simp] theorem run_builds0 (w : World) : (buildEvs 0 #[]).run Tryz.prog w = .ok (.slice (some ⟨w.heap.size, 0, none⟩) 0 0) (w.alloc (.cells #[] 38)) := by
  kernel_rfl

end Go.Proofs.YtkkflnmfghegnaaGreatDoor
