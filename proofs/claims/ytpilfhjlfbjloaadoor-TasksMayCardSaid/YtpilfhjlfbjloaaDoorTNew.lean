/-
  The walks of tasks.New at a Failsafe's and a Commander's task without orders. Conditions: none.
-/
import Derived.Test.YtpilfhjlfbjloaaDoorTSteps
namespace Go.Proofs.YtpilfhjlfbjloaaDoor
open Go.RowKit

set_option maxRecDepth 100000 in
theorem clone_nil (w : World) : Calls Tryd.prog 21 #[nilS] w fun e w' => e = .returned nilS ∧ w' = w := by
  have heq : ∀ w, (binOp .eql 50 (.slice none 0 0) (.slice none 0 0)).run Tryd.prog w = .ok (.bool true) w := fun w => by kernel_rfl
  go_enter Tryd.func21, Tryd.ntmps21
  go_wp2
  go_ret
  exact ⟨rfl, rfl⟩

/-- A step of a task. -/
abbrev stepV (f : FuncId) (T : Nat) : Value := .func (.func f) #[.pointer (some ⟨T, 0, none⟩)] #[]
abbrev callO (kind topic : Int) : Obj := .cells #[.int .i64 kind, .int .i64 topic, .int .i64 0, .int .i64 0, .int .i64 0, .int .i64 0, .int .i64 0, .int .i64 0, .bool false, .slice none 0 0, .slice none 0 0] 41

set_option maxRecDepth 100000 in
set_option maxHeartbeats 1600000 in
theorem new_fs (w : World) : Calls Tryd.prog 11 #[.int .i64 3, .int .i64 2, nilS] w fun e w' => e = .returned (.tuple #[.pointer (some ⟨w.heap.size, 0, none⟩), .int .i64 0]) ∧
    w' = (w.alloc (taskB 2 0 (.slice (some ⟨w.heap.size + 1, 0, none⟩) 2 2) 0 nilS .nilFunc 0 0 false 0 0)).alloc (.cells #[stepV 27 w.heap.size, stepV 30 w.heap.size] 72) := by
  go_enter Tryd.func11, Tryd.ntmps11
  go_wp2_with fail
  go_loopw [28] (fun i wr => i = .int .i64 0 ∧ wr = w) (fun _ _ => 0)
  case atStart => exact ⟨rfl, rfl⟩
  case round =>
    obtain ⟨rfl, rfl⟩ := hrel
    go_wp2_with fail
    refine (clone_nil _).mono ?_
    rintro e w' ⟨rfl, rfl⟩
    go_wp2
    go_ret2
    exact ⟨rfl, rfl⟩

set_option maxRecDepth 100000 in
set_option maxHeartbeats 1600000 in
theorem new_cm (w : World) : Calls Tryd.prog 11 #[.int .i64 1, .int .i64 1, nilS] w fun e w' => e = .returned (.tuple #[.pointer (some ⟨w.heap.size, 0, none⟩), .int .i64 0]) ∧
    w' = ((w.alloc (taskB 1 0 (.slice (some ⟨w.heap.size + 1 + 1, 0, none⟩) 3 3) 0 (.slice (some ⟨w.heap.size + 1, 0, none⟩) 1 1) .nilFunc 0 0 false 0 0)).alloc (callO 0 1)).alloc (.cells #[stepV 25 w.heap.size, stepV 26 w.heap.size, stepV 27 w.heap.size] 72) := by
  go_enter Tryd.func11, Tryd.ntmps11
  go_wp2_with fail
  go_loopw [28] (fun i wr => i = .int .i64 0 ∧ wr = w) (fun _ _ => 0)
  case atStart => exact ⟨rfl, rfl⟩
  case round =>
    obtain ⟨rfl, rfl⟩ := hrel
    go_wp2_with fail
    refine (clone_nil _).mono ?_
    rintro e w' ⟨rfl, rfl⟩
    go_wp2
    go_ret2
    exact ⟨rfl, rfl⟩

end Go.Proofs.YtpilfhjlfbjloaaDoor
