/-
  The walk of the law TasksNil: it answers true. Conditions: an answer, as twelve cells.
-/
import Derived.Test.YtieiamefominbaaTAwake
import Derived.Test.YtieiamefominbaaTSmall
namespace Go.Proofs.Ytieiamefominbaa
open Go.RowKit

set_option maxRecDepth 100000 in
set_option maxHeartbeats 1600000 in
theorem next_cells (a0 a1 a2 a3 a4 a5 a6 a7 a8 a9 a10 a11 : Value) (w : World) :
    Calls Try.prog 4 #[.pointer none, .agg #[a0, a1, a2, a3, a4, a5, a6, a7, a8, a9, a10, a11]] w fun e w' => e = .returned (.tuple #[callV 0 0 0 0 0 0 0 0 false nilS nilS, .bool false]) ∧ Below w.heap.size w w' := by
  go_enter Try.func4, Try.ntmps4
  go_wp2
  go_step3
  go_wp2
  rw [Exit.noGoto_ret]
  have hresl : Try.f4.results = #[.cell 4 32, .tmp 5] := by kernel_rfl
  refine bodyPost_ret (v := .tuple #[callV 0 0 0 0 0 0 0 0 false nilS nilS, .bool false]) ?_ rfl ⟨rfl, below_new2 w _ _⟩
  simp only [results, hresl]
  go_simp

theorem cells9 {x : World} {g : Nat} {c0 c1 c2 c3 c4 c5 c6 c7 c8 : Value} {t : TypeId} (h : x.heap[g]? = some (.cells #[c0, c1, c2, c3, c4, c5, c6, c7, c8] t)) :
    x.cell? ⟨g, 0, none⟩ = some c0 ∧ x.cell? ⟨g, 1, none⟩ = some c1 ∧ x.cell? ⟨g, 2, none⟩ = some c2 ∧ x.cell? ⟨g, 3, none⟩ = some c3 ∧ x.cell? ⟨g, 4, none⟩ = some c4 ∧ x.cell? ⟨g, 5, none⟩ = some c5 ∧ x.cell? ⟨g, 6, none⟩ = some c6 ∧ x.cell? ⟨g, 7, none⟩ = some c7 ∧ x.cell? ⟨g, 8, none⟩ = some c8 ∧ ∀ i, x.frozen? ⟨g, i, none⟩ = false :=
  ⟨cell_of h 0, cell_of h 1, cell_of h 2, cell_of h 3, cell_of h 4, cell_of h 5, cell_of h 6, cell_of h 7, cell_of h 8, frozen_of h⟩
theorem cells4 {x : World} {g : Nat} {c0 c1 c2 c3 : Value} {t : TypeId} (h : x.heap[g]? = some (.cells #[c0, c1, c2, c3] t)) :
    x.cell? ⟨g, 0, none⟩ = some c0 ∧ x.cell? ⟨g, 1, none⟩ = some c1 ∧ x.cell? ⟨g, 2, none⟩ = some c2 ∧ x.cell? ⟨g, 3, none⟩ = some c3 ∧ ∀ i, x.frozen? ⟨g, i, none⟩ = false :=
  ⟨cell_of h 0, cell_of h 1, cell_of h 2, cell_of h 3, frozen_of h⟩
theorem config_topics (a b c d : Value) (w : World) : (Instr.field 37 (.agg #[a, b, c, d]) 1).run Try.prog w = .ok b w := by kernel_rfl

set_option maxRecDepth 100000 in
set_option maxHeartbeats 3200000 in
theorem lawnil_any (a0 a1 a2 a3 a4 a5 a6 a7 a8 a9 a10 a11 : Value) (w : World) : Calls Try.prog 3 #[.agg #[a0, a1, a2, a3, a4, a5, a6, a7, a8, a9, a10, a11]] w fun e w' => e = .returned (.bool true) ∧ Below w.heap.size w w' := by
  have hfield := config_topics
  have hb0 := below_new w (.cells #[a0, a1, a2, a3, a4, a5, a6, a7, a8, a9, a10, a11] 28)
  go_enter Try.func3, Try.ntmps3
  go_wp2_with fail
  refine (next_cells a0 a1 a2 a3 a4 a5 a6 a7 a8 a9 a10 a11 _).mono ?_
  rintro e w1 ⟨rfl, hb1⟩
  have hb01 := below2 hb0 hb1
  have hC1 := heap_alloc_new w1 callZ
  have hb01a := below2 hb01 (below_new w1 callZ)
  go_wp2_with fail
  refine (config_any _).mono ?_
  rintro e w2 ⟨B, rfl, hB, hBl, hb2⟩
  have hb02 := below2 hb01a hb2
  have hC2 := (hb2.block w1.heap.size (by simp)).trans hC1
  have hB3 := alloc_old w2 (.cells #[.int .i64 4, .slice (some ⟨B, 0, none⟩) 3 3, .int .i64 4, .int .i64 16] 37) _ _ hB
  have hC3 := alloc_old w2 (.cells #[.int .i64 4, .slice (some ⟨B, 0, none⟩) 3 3, .int .i64 4, .int .i64 16] 37) _ _ hC2
  have hX3 := heap_alloc_new w2 (.cells #[.int .i64 4, .slice (some ⟨B, 0, none⟩) 3 3, .int .i64 4, .int .i64 16] 37)
  have hb03 := below2 hb02 (below_new w2 (.cells #[.int .i64 4, .slice (some ⟨B, 0, none⟩) 3 3, .int .i64 4, .int .i64 16] 37))
  have hBw : w.heap.size ≤ B := Nat.le_trans hb01a.size hBl
  obtain ⟨c0, c1, c2, c3, c4, c5, c6, c7, c8, c9, c10, cf⟩ := cells11 hC3
  have hlt3 := block_lt hC2
  go_wp2_with fail
  refine (same_zero _).mono ?_
  rintro e w4 ⟨rfl, hb4⟩
  have hB4 := (hb4.block B (block_lt hB3)).trans hB3
  have hX4 := (hb4.block w2.heap.size (block_lt hX3)).trans hX3
  have hb04 := below2 hb03 hb4
  clear c0 c1 c2 c3 c4 c5 c6 c7 c8 c9 c10 cf hC1 hC2 hC3 hB hB3 hX3
  go_wp2_with fail
  refine (turn_none _).mono ?_
  rintro e w' ⟨rfl, rfl⟩
  obtain ⟨x0, x1, x2, x3, xf⟩ := cells4 hX4
  obtain ⟨b0, b1, b2, b3, b4, b5, b6, b7, b8, bf⟩ := cells9 hB4
  go_wp2_with fail
  have hb05 : Below w.heap.size w (w'.setCell ⟨B, 1, none⟩ (.int .i64 9)) := hb04.setCell hBw _
  refine (config_any _).mono ?_
  rintro e w6 ⟨B2, rfl, hB6, hBl6, hb6⟩
  have hb06 := below2 hb05 hb6
  obtain ⟨d0, d1, d2, d3, d4, d5, d6, d7, d8, df⟩ := cells9 hB6
  go_wp2_with fail
  refine (awake_any _).mono ?_
  rintro e w7 ⟨rfl, hb7⟩
  have hb07 := below2 hb06 hb7
  go_wp2_with fail
  go_ret
  exact ⟨rfl, hb07⟩

end Go.Proofs.Ytieiamefominbaa
