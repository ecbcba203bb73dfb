/-
  The walks of tasks.Config, of call.Same at two calls without anything, of Turn at no task. Conditions: none.
-/
import Derived.Test.YtieiamefominbaaTNextLib
namespace Go.Proofs.Ytieiamefominbaa
set_option pp.deepTerms true
set_option pp.maxSteps 1000000
open Go.RowKit

set_option maxRecDepth 100000 in
theorem turn_none (w : World) : Calls Try.prog 7 #[.pointer none] w fun e w' => e = .returned (.int .i64 0) ∧ w' = w := by
  go_enter Try.func7, Try.ntmps7
  go_wp2
  go_ret
  exact ⟨rfl, rfl⟩

abbrev topicsO : Obj := .cells #[.string ⟨#[112, 111, 115, 101]⟩, .int .i64 3, .int .i64 4, .string ⟨#[103, 111, 97, 108]⟩, .int .i64 1, .int .i64 4, .string ⟨#[115, 112, 101, 101, 100]⟩, .int .i64 1, .int .i64 4] 42
set_option maxRecDepth 100000 in
set_option maxHeartbeats 1600000 in
theorem config_any (w : World) : Calls Try.prog 5 #[] w fun e w' => ∃ B, e = .returned (.agg #[.int .i64 4, .slice (some ⟨B, 0, none⟩) 3 3, .int .i64 4, .int .i64 16]) ∧ w'.heap[B]? = some topicsO ∧ w.heap.size ≤ B ∧ Below w.heap.size w w' := by
  go_enter Try.func5, Try.ntmps5
  go_wp2
  have hresl : Try.f5.results = #[.cell 0 37] := by kernel_rfl
  refine bodyPost_ret (v := .agg #[.int .i64 4, .slice (some ⟨w.heap.size + 1, 0, none⟩) 3 3, .int .i64 4, .int .i64 16]) ?_ rfl ⟨w.heap.size + 1, rfl, ?_, Nat.le_succ _, below_new2 w _ _⟩
  · simp only [results, hresl]
    go_simp
  · have h := heap_alloc_new (w.alloc (.cells #[.int .i64 4, .slice (some ⟨w.heap.size + 1, 0, none⟩) 3 3, .int .i64 4, .int .i64 16] 37)) topicsO
    rw [alloc_size] at h
    exact h

set_option maxRecDepth 100000 in
theorem eqi_nil (w : World) : Calls Try.prog 9 #[.slice none 0 0, .slice none 0 0] w fun e w' => e = .returned (.bool true) ∧ w' = w := by
  go_enter Try.func9, Try.ntmps9
  go_wp2_with fail
  go_loopw [13] (fun i wr => i = .int .i64 0 ∧ wr = w) (fun _ _ => 0)
  case atStart => exact ⟨rfl, rfl⟩
  case round =>
    obtain ⟨rfl, rfl⟩ := hrel
    go_wp2
    go_ret
    exact ⟨rfl, rfl⟩
set_option maxRecDepth 100000 in
theorem equ_nil (w : World) : Calls Try.prog 10 #[.slice none 0 0, .slice none 0 0] w fun e w' => e = .returned (.bool true) ∧ w' = w := by
  go_enter Try.func10, Try.ntmps10
  go_wp2_with fail
  go_loopw [13] (fun i wr => i = .int .i64 0 ∧ wr = w) (fun _ _ => 0)
  case atStart => exact ⟨rfl, rfl⟩
  case round =>
    obtain ⟨rfl, rfl⟩ := hrel
    go_wp2
    go_ret
    exact ⟨rfl, rfl⟩

set_option maxRecDepth 100000 in
set_option maxHeartbeats 1600000 in
theorem same_zero (w : World) : Calls Try.prog 6 #[callV 0 0 0 0 0 0 0 0 false nilS nilS, callV 0 0 0 0 0 0 0 0 false nilS nilS] w fun e w' => e = .returned (.bool true) ∧ Below w.heap.size w w' := by
  go_enter Try.func6, Try.ntmps6
  go_wp2_with fail
  refine (eqi_nil _).mono ?_
  rintro e w' ⟨rfl, rfl⟩
  go_wp2_with fail
  refine (equ_nil _).mono ?_
  rintro e w' ⟨rfl, rfl⟩
  go_wp2
  go_ret
  exact ⟨rfl, below_new2 _ _ _⟩

end Go.Proofs.Ytieiamefominbaa
