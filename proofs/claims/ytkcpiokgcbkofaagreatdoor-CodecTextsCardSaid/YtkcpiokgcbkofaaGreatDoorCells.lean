/-
  Rows of two cells in a world. Conditions: none.
-/
import Derived.Test.YtkcpiokgcbkofaaGreatDoorEnc
namespace Go.Proofs.YtkcpiokgcbkofaaGreatDoor
open Go.RowKit

theorem heap_mid (w : World) (A B C : Obj) : (((w.alloc A).alloc B).alloc C).heap[w.heap.size + 1]? = some B := by
  have h := heap_alloc_new (w.alloc A) B
  have e : (w.alloc A).heap.size = w.heap.size + 1 := by simp
  rw [e] at h
  exact ((below_new ((w.alloc A).alloc B) C).block _ (by simp)).trans h

theorem two_cells {x : World} {g : Nat} {c0 c1 : Value} {t : TypeId} (h : x.heap[g]? = some (.cells #[c0, c1] t)) :
    x.cell? ⟨g, 0, none⟩ = some c0 ∧ x.cell? ⟨g, 1, none⟩ = some c1 ∧ x.frozen? ⟨g, 0, none⟩ = false ∧ x.frozen? ⟨g, 1, none⟩ = false := by
  simp [World.cell?, World.frozen?, h]

/-- A row of two cells, stored whole. -/
theorem two_after {x : World} {g : Nat} {c0 c1 : Value} {t : TypeId} (h : x.heap[g]? = some (.cells #[c0, c1] t)) (a b : Value) :
    (x.setCell ⟨g, 0, none⟩ a).cell? ⟨g, 1, none⟩ = some c1 ∧ (x.setCell ⟨g, 0, none⟩ a).frozen? ⟨g, 1, none⟩ = false ∧
    ((x.setCell ⟨g, 0, none⟩ a).setCell ⟨g, 1, none⟩ b).heap[g]? = some (.cells #[a, b] t) := by
  have h1 := heap_setCell_same x g 0 _ t a h
  have h2 := heap_setCell_same _ g 1 _ t b h1
  have h1' : (x.setCell ⟨g, 0, none⟩ a).heap[g]? = some (.cells #[a, c1] t) := by simpa using h1
  exact ⟨(two_cells h1').2.1, (two_cells h1').2.2.2, by simpa using h2⟩

end Go.Proofs.YtkcpiokgcbkofaaGreatDoor
