/-
  Words for memory that the walks of this seat share. Conditions: none.
-/
import Derived.Test.YtclgmikdjcjjdaaGreatDoorRows
import Derived.Test.YtclgmikdjcjjdaaGreatDoorBPlain
import Derived.Deep.RegionHeld3
import Derived.WalkMore
namespace Go.Proofs.YtclgmikdjcjjdaaGreatDoor
open Go.RowKit

theorem cell_of {x : World} {g : Nat} {cs : Array Value} {t : TypeId} (h : x.heap[g]? = some (.cells cs t)) (j : Nat) : x.cell? ⟨g, j, none⟩ = cs[j]? := by simp [World.cell?, h]
theorem frozen_of {x : World} {g : Nat} {cs : Array Value} {t : TypeId} (h : x.heap[g]? = some (.cells cs t)) (j : Nat) : x.frozen? ⟨g, j, none⟩ = false := by simp [World.frozen?, h]
theorem block_lt {w : World} {b : Nat} {o : Obj} (h : w.heap[b]? = some o) : b < w.heap.size := (Array.getElem?_eq_some_iff.1 h).1
theorem alloc_size (w : World) (o : Obj) : (w.alloc o).heap.size = w.heap.size + 1 := by simp
theorem alloc_was (w : World) (o : Obj) (i : Nat) (u : Obj) (h : w.heap[i]? = some u) : (w.alloc o).heap[i]? = some u :=
  ((below_new w o).block i (block_lt h)).trans h
theorem heap_two (w : World) (A B : Obj) : ((w.alloc A).alloc B).heap[w.heap.size]? = some A ∧ ((w.alloc A).alloc B).heap[w.heap.size + 1]? = some B := by
  have h := heap_alloc_new (w.alloc A) B
  rw [alloc_size] at h
  exact ⟨alloc_was _ _ _ _ (heap_alloc_new w A), h⟩

theorem row2 {x : World} {g : Nat} {c0 c1 : Value} {t : TypeId} (h : x.heap[g]? = some (.cells #[c0, c1] t)) :
    x.cell? ⟨g, 0, none⟩ = some c0 ∧ x.cell? ⟨g, 1, none⟩ = some c1 ∧ (∀ i, x.frozen? ⟨g, i, none⟩ = false) ∧ g < x.heap.size :=
  ⟨cell_of h 0, cell_of h 1, frozen_of h, block_lt h⟩
theorem row3 {x : World} {g : Nat} {c0 c1 c2 : Value} {t : TypeId} (h : x.heap[g]? = some (.cells #[c0, c1, c2] t)) :
    x.cell? ⟨g, 0, none⟩ = some c0 ∧ x.cell? ⟨g, 1, none⟩ = some c1 ∧ x.cell? ⟨g, 2, none⟩ = some c2 ∧ (∀ i, x.frozen? ⟨g, i, none⟩ = false) ∧ g < x.heap.size :=
  ⟨cell_of h 0, cell_of h 1, cell_of h 2, frozen_of h, block_lt h⟩
theorem row4 {x : World} {g : Nat} {c0 c1 c2 c3 : Value} {t : TypeId} (h : x.heap[g]? = some (.cells #[c0, c1, c2, c3] t)) :
    x.cell? ⟨g, 0, none⟩ = some c0 ∧ x.cell? ⟨g, 1, none⟩ = some c1 ∧ x.cell? ⟨g, 2, none⟩ = some c2 ∧ x.cell? ⟨g, 3, none⟩ = some c3 ∧ (∀ i, x.frozen? ⟨g, i, none⟩ = false) ∧ g < x.heap.size :=
  ⟨cell_of h 0, cell_of h 1, cell_of h 2, cell_of h 3, frozen_of h, block_lt h⟩
theorem row5 {x : World} {g : Nat} {c0 c1 c2 c3 c4 : Value} {t : TypeId} (h : x.heap[g]? = some (.cells #[c0, c1, c2, c3, c4] t)) :
    x.cell? ⟨g, 0, none⟩ = some c0 ∧ x.cell? ⟨g, 1, none⟩ = some c1 ∧ x.cell? ⟨g, 2, none⟩ = some c2 ∧ x.cell? ⟨g, 3, none⟩ = some c3 ∧ x.cell? ⟨g, 4, none⟩ = some c4 ∧ (∀ i, x.frozen? ⟨g, i, none⟩ = false) ∧ g < x.heap.size :=
  ⟨cell_of h 0, cell_of h 1, cell_of h 2, cell_of h 3, cell_of h 4, frozen_of h, block_lt h⟩
theorem row6 {x : World} {g : Nat} {c0 c1 c2 c3 c4 c5 : Value} {t : TypeId} (h : x.heap[g]? = some (.cells #[c0, c1, c2, c3, c4, c5] t)) :
    x.cell? ⟨g, 0, none⟩ = some c0 ∧ x.cell? ⟨g, 1, none⟩ = some c1 ∧ x.cell? ⟨g, 2, none⟩ = some c2 ∧ x.cell? ⟨g, 3, none⟩ = some c3 ∧ x.cell? ⟨g, 4, none⟩ = some c4 ∧ x.cell? ⟨g, 5, none⟩ = some c5 ∧ (∀ i, x.frozen? ⟨g, i, none⟩ = false) ∧ g < x.heap.size :=
  ⟨cell_of h 0, cell_of h 1, cell_of h 2, cell_of h 3, cell_of h 4, cell_of h 5, frozen_of h, block_lt h⟩
theorem row10 {x : World} {g : Nat} {c0 c1 c2 c3 c4 c5 c6 c7 c8 c9 : Value} {t : TypeId} (h : x.heap[g]? = some (.cells #[c0, c1, c2, c3, c4, c5, c6, c7, c8, c9] t)) :
    x.cell? ⟨g, 0, none⟩ = some c0 ∧ x.cell? ⟨g, 1, none⟩ = some c1 ∧ x.cell? ⟨g, 2, none⟩ = some c2 ∧ x.cell? ⟨g, 3, none⟩ = some c3 ∧ x.cell? ⟨g, 4, none⟩ = some c4 ∧ x.cell? ⟨g, 5, none⟩ = some c5 ∧ x.cell? ⟨g, 6, none⟩ = some c6 ∧ x.cell? ⟨g, 7, none⟩ = some c7 ∧ x.cell? ⟨g, 8, none⟩ = some c8 ∧ x.cell? ⟨g, 9, none⟩ = some c9 ∧ (∀ i, x.frozen? ⟨g, i, none⟩ = false) ∧ g < x.heap.size :=
  ⟨cell_of h 0, cell_of h 1, cell_of h 2, cell_of h 3, cell_of h 4, cell_of h 5, cell_of h 6, cell_of h 7, cell_of h 8, cell_of h 9, frozen_of h, block_lt h⟩
theorem row11 {x : World} {g : Nat} {c0 c1 c2 c3 c4 c5 c6 c7 c8 c9 c10 : Value} {t : TypeId} (h : x.heap[g]? = some (.cells #[c0, c1, c2, c3, c4, c5, c6, c7, c8, c9, c10] t)) :
    x.cell? ⟨g, 0, none⟩ = some c0 ∧ x.cell? ⟨g, 1, none⟩ = some c1 ∧ x.cell? ⟨g, 2, none⟩ = some c2 ∧ x.cell? ⟨g, 3, none⟩ = some c3 ∧ x.cell? ⟨g, 4, none⟩ = some c4 ∧ x.cell? ⟨g, 5, none⟩ = some c5 ∧ x.cell? ⟨g, 6, none⟩ = some c6 ∧ x.cell? ⟨g, 7, none⟩ = some c7 ∧ x.cell? ⟨g, 8, none⟩ = some c8 ∧ x.cell? ⟨g, 9, none⟩ = some c9 ∧ x.cell? ⟨g, 10, none⟩ = some c10 ∧ (∀ i, x.frozen? ⟨g, i, none⟩ = false) ∧ g < x.heap.size :=
  ⟨cell_of h 0, cell_of h 1, cell_of h 2, cell_of h 3, cell_of h 4, cell_of h 5, cell_of h 6, cell_of h 7, cell_of h 8, cell_of h 9, cell_of h 10, frozen_of h, block_lt h⟩
theorem row12 {x : World} {g : Nat} {c0 c1 c2 c3 c4 c5 c6 c7 c8 c9 c10 c11 : Value} {t : TypeId} (h : x.heap[g]? = some (.cells #[c0, c1, c2, c3, c4, c5, c6, c7, c8, c9, c10, c11] t)) :
    x.cell? ⟨g, 0, none⟩ = some c0 ∧ x.cell? ⟨g, 1, none⟩ = some c1 ∧ x.cell? ⟨g, 2, none⟩ = some c2 ∧ x.cell? ⟨g, 3, none⟩ = some c3 ∧ x.cell? ⟨g, 4, none⟩ = some c4 ∧ x.cell? ⟨g, 5, none⟩ = some c5 ∧ x.cell? ⟨g, 6, none⟩ = some c6 ∧ x.cell? ⟨g, 7, none⟩ = some c7 ∧ x.cell? ⟨g, 8, none⟩ = some c8 ∧ x.cell? ⟨g, 9, none⟩ = some c9 ∧ x.cell? ⟨g, 10, none⟩ = some c10 ∧ x.cell? ⟨g, 11, none⟩ = some c11 ∧ (∀ i, x.frozen? ⟨g, i, none⟩ = false) ∧ g < x.heap.size :=
  ⟨cell_of h 0, cell_of h 1, cell_of h 2, cell_of h 3, cell_of h 4, cell_of h 5, cell_of h 6, cell_of h 7, cell_of h 8, cell_of h 9, cell_of h 10, cell_of h 11, frozen_of h, block_lt h⟩
theorem row13 {x : World} {g : Nat} {c0 c1 c2 c3 c4 c5 c6 c7 c8 c9 c10 c11 c12 : Value} {t : TypeId} (h : x.heap[g]? = some (.cells #[c0, c1, c2, c3, c4, c5, c6, c7, c8, c9, c10, c11, c12] t)) :
    x.cell? ⟨g, 0, none⟩ = some c0 ∧ x.cell? ⟨g, 1, none⟩ = some c1 ∧ x.cell? ⟨g, 2, none⟩ = some c2 ∧ x.cell? ⟨g, 3, none⟩ = some c3 ∧ x.cell? ⟨g, 4, none⟩ = some c4 ∧ x.cell? ⟨g, 5, none⟩ = some c5 ∧ x.cell? ⟨g, 6, none⟩ = some c6 ∧ x.cell? ⟨g, 7, none⟩ = some c7 ∧ x.cell? ⟨g, 8, none⟩ = some c8 ∧ x.cell? ⟨g, 9, none⟩ = some c9 ∧ x.cell? ⟨g, 10, none⟩ = some c10 ∧ x.cell? ⟨g, 11, none⟩ = some c11 ∧ x.cell? ⟨g, 12, none⟩ = some c12 ∧ (∀ i, x.frozen? ⟨g, i, none⟩ = false) ∧ g < x.heap.size :=
  ⟨cell_of h 0, cell_of h 1, cell_of h 2, cell_of h 3, cell_of h 4, cell_of h 5, cell_of h 6, cell_of h 7, cell_of h 8, cell_of h 9, cell_of h 10, cell_of h 11, cell_of h 12, frozen_of h, block_lt h⟩
theorem set4 {x : World} {g : Nat} {c0 c1 c2 c3 : Value} {t : TypeId} (h : x.heap[g]? = some (.cells #[c0, c1, c2, c3] t)) (u0 u1 u2 u3 : Value) :
    ((((x.setCell ⟨g, 0, none⟩ u0).setCell ⟨g, 1, none⟩ u1).setCell ⟨g, 2, none⟩ u2).setCell ⟨g, 3, none⟩ u3).heap[g]? = some (.cells #[u0, u1, u2, u3] t) := by
  have h0 := heap_setCell_same x g 0 _ t u0 h
  have h1 := heap_setCell_same _ g 1 _ t u1 h0
  have h2 := heap_setCell_same _ g 2 _ t u2 h1
  have h3 := heap_setCell_same _ g 3 _ t u3 h2
  simpa using h3
theorem set4_same (x : World) (g : Nat) (u0 u1 u2 u3 : Value) : ((((x.setCell ⟨g, 0, none⟩ u0).setCell ⟨g, 1, none⟩ u1).setCell ⟨g, 2, none⟩ u2).setCell ⟨g, 3, none⟩ u3).os = x.os ∧ ((((x.setCell ⟨g, 0, none⟩ u0).setCell ⟨g, 1, none⟩ u1).setCell ⟨g, 2, none⟩ u2).setCell ⟨g, 3, none⟩ u3).tape = x.tape ∧ ((((x.setCell ⟨g, 0, none⟩ u0).setCell ⟨g, 1, none⟩ u1).setCell ⟨g, 2, none⟩ u2).setCell ⟨g, 3, none⟩ u3).output = x.output ∧ ((((x.setCell ⟨g, 0, none⟩ u0).setCell ⟨g, 1, none⟩ u1).setCell ⟨g, 2, none⟩ u2).setCell ⟨g, 3, none⟩ u3).heap.size = x.heap.size :=
  have h : Below 0 x ((((x.setCell ⟨g, 0, none⟩ u0).setCell ⟨g, 1, none⟩ u1).setCell ⟨g, 2, none⟩ u2).setCell ⟨g, 3, none⟩ u3) := ((((Below.refl 0 x).setCell (Nat.zero_le _) _).setCell (Nat.zero_le _) _).setCell (Nat.zero_le _) _).setCell (Nat.zero_le _) _
  ⟨h.os, h.tape, h.output, by simp⟩
theorem set4_below {B g : Nat} {w x : World} (h : Below B w x) (hg : B ≤ g) (u0 u1 u2 u3 : Value) : Below B w ((((x.setCell ⟨g, 0, none⟩ u0).setCell ⟨g, 1, none⟩ u1).setCell ⟨g, 2, none⟩ u2).setCell ⟨g, 3, none⟩ u3) :=
  ((((h).setCell hg _).setCell hg _).setCell hg _).setCell hg _
theorem set4_other {x : World} {g b : Nat} (hb : b ≠ g) (u0 u1 u2 u3 : Value) : ((((x.setCell ⟨g, 0, none⟩ u0).setCell ⟨g, 1, none⟩ u1).setCell ⟨g, 2, none⟩ u2).setCell ⟨g, 3, none⟩ u3).heap[b]? = x.heap[b]? := by
  rw [Below.heap_setCell _ _ _ _ hb, Below.heap_setCell _ _ _ _ hb, Below.heap_setCell _ _ _ _ hb, Below.heap_setCell _ _ _ _ hb]
theorem set5 {x : World} {g : Nat} {c0 c1 c2 c3 c4 : Value} {t : TypeId} (h : x.heap[g]? = some (.cells #[c0, c1, c2, c3, c4] t)) (u0 u1 u2 u3 u4 : Value) :
    (((((x.setCell ⟨g, 0, none⟩ u0).setCell ⟨g, 1, none⟩ u1).setCell ⟨g, 2, none⟩ u2).setCell ⟨g, 3, none⟩ u3).setCell ⟨g, 4, none⟩ u4).heap[g]? = some (.cells #[u0, u1, u2, u3, u4] t) := by
  have h0 := heap_setCell_same x g 0 _ t u0 h
  have h1 := heap_setCell_same _ g 1 _ t u1 h0
  have h2 := heap_setCell_same _ g 2 _ t u2 h1
  have h3 := heap_setCell_same _ g 3 _ t u3 h2
  have h4 := heap_setCell_same _ g 4 _ t u4 h3
  simpa using h4
theorem set5_same (x : World) (g : Nat) (u0 u1 u2 u3 u4 : Value) : (((((x.setCell ⟨g, 0, none⟩ u0).setCell ⟨g, 1, none⟩ u1).setCell ⟨g, 2, none⟩ u2).setCell ⟨g, 3, none⟩ u3).setCell ⟨g, 4, none⟩ u4).os = x.os ∧ (((((x.setCell ⟨g, 0, none⟩ u0).setCell ⟨g, 1, none⟩ u1).setCell ⟨g, 2, none⟩ u2).setCell ⟨g, 3, none⟩ u3).setCell ⟨g, 4, none⟩ u4).tape = x.tape ∧ (((((x.setCell ⟨g, 0, none⟩ u0).setCell ⟨g, 1, none⟩ u1).setCell ⟨g, 2, none⟩ u2).setCell ⟨g, 3, none⟩ u3).setCell ⟨g, 4, none⟩ u4).output = x.output ∧ (((((x.setCell ⟨g, 0, none⟩ u0).setCell ⟨g, 1, none⟩ u1).setCell ⟨g, 2, none⟩ u2).setCell ⟨g, 3, none⟩ u3).setCell ⟨g, 4, none⟩ u4).heap.size = x.heap.size :=
  have h : Below 0 x (((((x.setCell ⟨g, 0, none⟩ u0).setCell ⟨g, 1, none⟩ u1).setCell ⟨g, 2, none⟩ u2).setCell ⟨g, 3, none⟩ u3).setCell ⟨g, 4, none⟩ u4) := (((((Below.refl 0 x).setCell (Nat.zero_le _) _).setCell (Nat.zero_le _) _).setCell (Nat.zero_le _) _).setCell (Nat.zero_le _) _).setCell (Nat.zero_le _) _
  ⟨h.os, h.tape, h.output, by simp⟩
theorem set5_below {B g : Nat} {w x : World} (h : Below B w x) (hg : B ≤ g) (u0 u1 u2 u3 u4 : Value) : Below B w (((((x.setCell ⟨g, 0, none⟩ u0).setCell ⟨g, 1, none⟩ u1).setCell ⟨g, 2, none⟩ u2).setCell ⟨g, 3, none⟩ u3).setCell ⟨g, 4, none⟩ u4) :=
  (((((h).setCell hg _).setCell hg _).setCell hg _).setCell hg _).setCell hg _
theorem set5_other {x : World} {g b : Nat} (hb : b ≠ g) (u0 u1 u2 u3 u4 : Value) : (((((x.setCell ⟨g, 0, none⟩ u0).setCell ⟨g, 1, none⟩ u1).setCell ⟨g, 2, none⟩ u2).setCell ⟨g, 3, none⟩ u3).setCell ⟨g, 4, none⟩ u4).heap[b]? = x.heap[b]? := by
  rw [Below.heap_setCell _ _ _ _ hb, Below.heap_setCell _ _ _ _ hb, Below.heap_setCell _ _ _ _ hb, Below.heap_setCell _ _ _ _ hb, Below.heap_setCell _ _ _ _ hb]
theorem set6 {x : World} {g : Nat} {c0 c1 c2 c3 c4 c5 : Value} {t : TypeId} (h : x.heap[g]? = some (.cells #[c0, c1, c2, c3, c4, c5] t)) (u0 u1 u2 u3 u4 u5 : Value) :
    ((((((x.setCell ⟨g, 0, none⟩ u0).setCell ⟨g, 1, none⟩ u1).setCell ⟨g, 2, none⟩ u2).setCell ⟨g, 3, none⟩ u3).setCell ⟨g, 4, none⟩ u4).setCell ⟨g, 5, none⟩ u5).heap[g]? = some (.cells #[u0, u1, u2, u3, u4, u5] t) := by
  have h0 := heap_setCell_same x g 0 _ t u0 h
  have h1 := heap_setCell_same _ g 1 _ t u1 h0
  have h2 := heap_setCell_same _ g 2 _ t u2 h1
  have h3 := heap_setCell_same _ g 3 _ t u3 h2
  have h4 := heap_setCell_same _ g 4 _ t u4 h3
  have h5 := heap_setCell_same _ g 5 _ t u5 h4
  simpa using h5
theorem set6_same (x : World) (g : Nat) (u0 u1 u2 u3 u4 u5 : Value) : ((((((x.setCell ⟨g, 0, none⟩ u0).setCell ⟨g, 1, none⟩ u1).setCell ⟨g, 2, none⟩ u2).setCell ⟨g, 3, none⟩ u3).setCell ⟨g, 4, none⟩ u4).setCell ⟨g, 5, none⟩ u5).os = x.os ∧ ((((((x.setCell ⟨g, 0, none⟩ u0).setCell ⟨g, 1, none⟩ u1).setCell ⟨g, 2, none⟩ u2).setCell ⟨g, 3, none⟩ u3).setCell ⟨g, 4, none⟩ u4).setCell ⟨g, 5, none⟩ u5).tape = x.tape ∧ ((((((x.setCell ⟨g, 0, none⟩ u0).setCell ⟨g, 1, none⟩ u1).setCell ⟨g, 2, none⟩ u2).setCell ⟨g, 3, none⟩ u3).setCell ⟨g, 4, none⟩ u4).setCell ⟨g, 5, none⟩ u5).output = x.output ∧ ((((((x.setCell ⟨g, 0, none⟩ u0).setCell ⟨g, 1, none⟩ u1).setCell ⟨g, 2, none⟩ u2).setCell ⟨g, 3, none⟩ u3).setCell ⟨g, 4, none⟩ u4).setCell ⟨g, 5, none⟩ u5).heap.size = x.heap.size :=
  have h : Below 0 x ((((((x.setCell ⟨g, 0, none⟩ u0).setCell ⟨g, 1, none⟩ u1).setCell ⟨g, 2, none⟩ u2).setCell ⟨g, 3, none⟩ u3).setCell ⟨g, 4, none⟩ u4).setCell ⟨g, 5, none⟩ u5) := ((((((Below.refl 0 x).setCell (Nat.zero_le _) _).setCell (Nat.zero_le _) _).setCell (Nat.zero_le _) _).setCell (Nat.zero_le _) _).setCell (Nat.zero_le _) _).setCell (Nat.zero_le _) _
  ⟨h.os, h.tape, h.output, by simp⟩
theorem set6_below {B g : Nat} {w x : World} (h : Below B w x) (hg : B ≤ g) (u0 u1 u2 u3 u4 u5 : Value) : Below B w ((((((x.setCell ⟨g, 0, none⟩ u0).setCell ⟨g, 1, none⟩ u1).setCell ⟨g, 2, none⟩ u2).setCell ⟨g, 3, none⟩ u3).setCell ⟨g, 4, none⟩ u4).setCell ⟨g, 5, none⟩ u5) :=
  ((((((h).setCell hg _).setCell hg _).setCell hg _).setCell hg _).setCell hg _).setCell hg _
theorem set6_other {x : World} {g b : Nat} (hb : b ≠ g) (u0 u1 u2 u3 u4 u5 : Value) : ((((((x.setCell ⟨g, 0, none⟩ u0).setCell ⟨g, 1, none⟩ u1).setCell ⟨g, 2, none⟩ u2).setCell ⟨g, 3, none⟩ u3).setCell ⟨g, 4, none⟩ u4).setCell ⟨g, 5, none⟩ u5).heap[b]? = x.heap[b]? := by
  rw [Below.heap_setCell _ _ _ _ hb, Below.heap_setCell _ _ _ _ hb, Below.heap_setCell _ _ _ _ hb, Below.heap_setCell _ _ _ _ hb, Below.heap_setCell _ _ _ _ hb, Below.heap_setCell _ _ _ _ hb]
theorem set6c {x : World} {g : Nat} {c0 c1 c2 c3 c4 c5 : Value} {t : TypeId} (h : x.heap[g]? = some (.cells #[c0, c1, c2, c3, c4, c5] t)) (u0 u1 u2 u3 : Value) :
    ((((x.setCell ⟨g, 2, none⟩ u0).setCell ⟨g, 3, none⟩ u1).setCell ⟨g, 4, none⟩ u2).setCell ⟨g, 5, none⟩ u3).heap[g]? = some (.cells #[c0, c1, u0, u1, u2, u3] t) := by
  have h0 := heap_setCell_same x g 2 _ t u0 h
  have h1 := heap_setCell_same _ g 3 _ t u1 h0
  have h2 := heap_setCell_same _ g 4 _ t u2 h1
  have h3 := heap_setCell_same _ g 5 _ t u3 h2
  simpa using h3
theorem set6c_same (x : World) (g : Nat) (u0 u1 u2 u3 : Value) : ((((x.setCell ⟨g, 2, none⟩ u0).setCell ⟨g, 3, none⟩ u1).setCell ⟨g, 4, none⟩ u2).setCell ⟨g, 5, none⟩ u3).os = x.os ∧ ((((x.setCell ⟨g, 2, none⟩ u0).setCell ⟨g, 3, none⟩ u1).setCell ⟨g, 4, none⟩ u2).setCell ⟨g, 5, none⟩ u3).tape = x.tape ∧ ((((x.setCell ⟨g, 2, none⟩ u0).setCell ⟨g, 3, none⟩ u1).setCell ⟨g, 4, none⟩ u2).setCell ⟨g, 5, none⟩ u3).output = x.output ∧ ((((x.setCell ⟨g, 2, none⟩ u0).setCell ⟨g, 3, none⟩ u1).setCell ⟨g, 4, none⟩ u2).setCell ⟨g, 5, none⟩ u3).heap.size = x.heap.size :=
  have h : Below 0 x ((((x.setCell ⟨g, 2, none⟩ u0).setCell ⟨g, 3, none⟩ u1).setCell ⟨g, 4, none⟩ u2).setCell ⟨g, 5, none⟩ u3) := ((((Below.refl 0 x).setCell (Nat.zero_le _) _).setCell (Nat.zero_le _) _).setCell (Nat.zero_le _) _).setCell (Nat.zero_le _) _
  ⟨h.os, h.tape, h.output, by simp⟩
theorem set6c_below {B g : Nat} {w x : World} (h : Below B w x) (hg : B ≤ g) (u0 u1 u2 u3 : Value) : Below B w ((((x.setCell ⟨g, 2, none⟩ u0).setCell ⟨g, 3, none⟩ u1).setCell ⟨g, 4, none⟩ u2).setCell ⟨g, 5, none⟩ u3) :=
  ((((h).setCell hg _).setCell hg _).setCell hg _).setCell hg _
theorem set6c_other {x : World} {g b : Nat} (hb : b ≠ g) (u0 u1 u2 u3 : Value) : ((((x.setCell ⟨g, 2, none⟩ u0).setCell ⟨g, 3, none⟩ u1).setCell ⟨g, 4, none⟩ u2).setCell ⟨g, 5, none⟩ u3).heap[b]? = x.heap[b]? := by
  rw [Below.heap_setCell _ _ _ _ hb, Below.heap_setCell _ _ _ _ hb, Below.heap_setCell _ _ _ _ hb, Below.heap_setCell _ _ _ _ hb]
theorem set12 {x : World} {g : Nat} {c0 c1 c2 c3 c4 c5 c6 c7 c8 c9 c10 c11 : Value} {t : TypeId} (h : x.heap[g]? = some (.cells #[c0, c1, c2, c3, c4, c5, c6, c7, c8, c9, c10, c11] t)) (u0 u1 u2 u3 u4 u5 u6 u7 u8 u9 u10 u11 : Value) :
    ((((((((((((x.setCell ⟨g, 0, none⟩ u0).setCell ⟨g, 1, none⟩ u1).setCell ⟨g, 2, none⟩ u2).setCell ⟨g, 3, none⟩ u3).setCell ⟨g, 4, none⟩ u4).setCell ⟨g, 5, none⟩ u5).setCell ⟨g, 6, none⟩ u6).setCell ⟨g, 7, none⟩ u7).setCell ⟨g, 8, none⟩ u8).setCell ⟨g, 9, none⟩ u9).setCell ⟨g, 10, none⟩ u10).setCell ⟨g, 11, none⟩ u11).heap[g]? = some (.cells #[u0, u1, u2, u3, u4, u5, u6, u7, u8, u9, u10, u11] t) := by
  have h0 := heap_setCell_same x g 0 _ t u0 h
  have h1 := heap_setCell_same _ g 1 _ t u1 h0
  have h2 := heap_setCell_same _ g 2 _ t u2 h1
  have h3 := heap_setCell_same _ g 3 _ t u3 h2
  have h4 := heap_setCell_same _ g 4 _ t u4 h3
  have h5 := heap_setCell_same _ g 5 _ t u5 h4
  have h6 := heap_setCell_same _ g 6 _ t u6 h5
  have h7 := heap_setCell_same _ g 7 _ t u7 h6
  have h8 := heap_setCell_same _ g 8 _ t u8 h7
  have h9 := heap_setCell_same _ g 9 _ t u9 h8
  have h10 := heap_setCell_same _ g 10 _ t u10 h9
  have h11 := heap_setCell_same _ g 11 _ t u11 h10
  simpa using h11
theorem set12_same (x : World) (g : Nat) (u0 u1 u2 u3 u4 u5 u6 u7 u8 u9 u10 u11 : Value) : ((((((((((((x.setCell ⟨g, 0, none⟩ u0).setCell ⟨g, 1, none⟩ u1).setCell ⟨g, 2, none⟩ u2).setCell ⟨g, 3, none⟩ u3).setCell ⟨g, 4, none⟩ u4).setCell ⟨g, 5, none⟩ u5).setCell ⟨g, 6, none⟩ u6).setCell ⟨g, 7, none⟩ u7).setCell ⟨g, 8, none⟩ u8).setCell ⟨g, 9, none⟩ u9).setCell ⟨g, 10, none⟩ u10).setCell ⟨g, 11, none⟩ u11).os = x.os ∧ ((((((((((((x.setCell ⟨g, 0, none⟩ u0).setCell ⟨g, 1, none⟩ u1).setCell ⟨g, 2, none⟩ u2).setCell ⟨g, 3, none⟩ u3).setCell ⟨g, 4, none⟩ u4).setCell ⟨g, 5, none⟩ u5).setCell ⟨g, 6, none⟩ u6).setCell ⟨g, 7, none⟩ u7).setCell ⟨g, 8, none⟩ u8).setCell ⟨g, 9, none⟩ u9).setCell ⟨g, 10, none⟩ u10).setCell ⟨g, 11, none⟩ u11).tape = x.tape ∧ ((((((((((((x.setCell ⟨g, 0, none⟩ u0).setCell ⟨g, 1, none⟩ u1).setCell ⟨g, 2, none⟩ u2).setCell ⟨g, 3, none⟩ u3).setCell ⟨g, 4, none⟩ u4).setCell ⟨g, 5, none⟩ u5).setCell ⟨g, 6, none⟩ u6).setCell ⟨g, 7, none⟩ u7).setCell ⟨g, 8, none⟩ u8).setCell ⟨g, 9, none⟩ u9).setCell ⟨g, 10, none⟩ u10).setCell ⟨g, 11, none⟩ u11).output = x.output ∧ ((((((((((((x.setCell ⟨g, 0, none⟩ u0).setCell ⟨g, 1, none⟩ u1).setCell ⟨g, 2, none⟩ u2).setCell ⟨g, 3, none⟩ u3).setCell ⟨g, 4, none⟩ u4).setCell ⟨g, 5, none⟩ u5).setCell ⟨g, 6, none⟩ u6).setCell ⟨g, 7, none⟩ u7).setCell ⟨g, 8, none⟩ u8).setCell ⟨g, 9, none⟩ u9).setCell ⟨g, 10, none⟩ u10).setCell ⟨g, 11, none⟩ u11).heap.size = x.heap.size :=
  have h : Below 0 x ((((((((((((x.setCell ⟨g, 0, none⟩ u0).setCell ⟨g, 1, none⟩ u1).setCell ⟨g, 2, none⟩ u2).setCell ⟨g, 3, none⟩ u3).setCell ⟨g, 4, none⟩ u4).setCell ⟨g, 5, none⟩ u5).setCell ⟨g, 6, none⟩ u6).setCell ⟨g, 7, none⟩ u7).setCell ⟨g, 8, none⟩ u8).setCell ⟨g, 9, none⟩ u9).setCell ⟨g, 10, none⟩ u10).setCell ⟨g, 11, none⟩ u11) := ((((((((((((Below.refl 0 x).setCell (Nat.zero_le _) _).setCell (Nat.zero_le _) _).setCell (Nat.zero_le _) _).setCell (Nat.zero_le _) _).setCell (Nat.zero_le _) _).setCell (Nat.zero_le _) _).setCell (Nat.zero_le _) _).setCell (Nat.zero_le _) _).setCell (Nat.zero_le _) _).setCell (Nat.zero_le _) _).setCell (Nat.zero_le _) _).setCell (Nat.zero_le _) _
  ⟨h.os, h.tape, h.output, by simp⟩
theorem set12_below {B g : Nat} {w x : World} (h : Below B w x) (hg : B ≤ g) (u0 u1 u2 u3 u4 u5 u6 u7 u8 u9 u10 u11 : Value) : Below B w ((((((((((((x.setCell ⟨g, 0, none⟩ u0).setCell ⟨g, 1, none⟩ u1).setCell ⟨g, 2, none⟩ u2).setCell ⟨g, 3, none⟩ u3).setCell ⟨g, 4, none⟩ u4).setCell ⟨g, 5, none⟩ u5).setCell ⟨g, 6, none⟩ u6).setCell ⟨g, 7, none⟩ u7).setCell ⟨g, 8, none⟩ u8).setCell ⟨g, 9, none⟩ u9).setCell ⟨g, 10, none⟩ u10).setCell ⟨g, 11, none⟩ u11) :=
  ((((((((((((h).setCell hg _).setCell hg _).setCell hg _).setCell hg _).setCell hg _).setCell hg _).setCell hg _).setCell hg _).setCell hg _).setCell hg _).setCell hg _).setCell hg _
theorem set12_other {x : World} {g b : Nat} (hb : b ≠ g) (u0 u1 u2 u3 u4 u5 u6 u7 u8 u9 u10 u11 : Value) : ((((((((((((x.setCell ⟨g, 0, none⟩ u0).setCell ⟨g, 1, none⟩ u1).setCell ⟨g, 2, none⟩ u2).setCell ⟨g, 3, none⟩ u3).setCell ⟨g, 4, none⟩ u4).setCell ⟨g, 5, none⟩ u5).setCell ⟨g, 6, none⟩ u6).setCell ⟨g, 7, none⟩ u7).setCell ⟨g, 8, none⟩ u8).setCell ⟨g, 9, none⟩ u9).setCell ⟨g, 10, none⟩ u10).setCell ⟨g, 11, none⟩ u11).heap[b]? = x.heap[b]? := by
  rw [Below.heap_setCell _ _ _ _ hb, Below.heap_setCell _ _ _ _ hb, Below.heap_setCell _ _ _ _ hb, Below.heap_setCell _ _ _ _ hb, Below.heap_setCell _ _ _ _ hb, Below.heap_setCell _ _ _ _ hb, Below.heap_setCell _ _ _ _ hb, Below.heap_setCell _ _ _ _ hb, Below.heap_setCell _ _ _ _ hb, Below.heap_setCell _ _ _ _ hb, Below.heap_setCell _ _ _ _ hb, Below.heap_setCell _ _ _ _ hb]
theorem set12s {x : World} {g : Nat} {c0 c1 c2 c3 c4 c5 c6 c7 c8 c9 c10 c11 : Value} {t : TypeId} (h : x.heap[g]? = some (.cells #[c0, c1, c2, c3, c4, c5, c6, c7, c8, c9, c10, c11] t)) (u0 u1 u2 u3 u4 : Value) :
    (((((x.setCell ⟨g, 5, none⟩ u0).setCell ⟨g, 6, none⟩ u1).setCell ⟨g, 7, none⟩ u2).setCell ⟨g, 8, none⟩ u3).setCell ⟨g, 9, none⟩ u4).heap[g]? = some (.cells #[c0, c1, c2, c3, c4, u0, u1, u2, u3, u4, c10, c11] t) := by
  have h0 := heap_setCell_same x g 5 _ t u0 h
  have h1 := heap_setCell_same _ g 6 _ t u1 h0
  have h2 := heap_setCell_same _ g 7 _ t u2 h1
  have h3 := heap_setCell_same _ g 8 _ t u3 h2
  have h4 := heap_setCell_same _ g 9 _ t u4 h3
  simpa using h4
theorem set12s_same (x : World) (g : Nat) (u0 u1 u2 u3 u4 : Value) : (((((x.setCell ⟨g, 5, none⟩ u0).setCell ⟨g, 6, none⟩ u1).setCell ⟨g, 7, none⟩ u2).setCell ⟨g, 8, none⟩ u3).setCell ⟨g, 9, none⟩ u4).os = x.os ∧ (((((x.setCell ⟨g, 5, none⟩ u0).setCell ⟨g, 6, none⟩ u1).setCell ⟨g, 7, none⟩ u2).setCell ⟨g, 8, none⟩ u3).setCell ⟨g, 9, none⟩ u4).tape = x.tape ∧ (((((x.setCell ⟨g, 5, none⟩ u0).setCell ⟨g, 6, none⟩ u1).setCell ⟨g, 7, none⟩ u2).setCell ⟨g, 8, none⟩ u3).setCell ⟨g, 9, none⟩ u4).output = x.output ∧ (((((x.setCell ⟨g, 5, none⟩ u0).setCell ⟨g, 6, none⟩ u1).setCell ⟨g, 7, none⟩ u2).setCell ⟨g, 8, none⟩ u3).setCell ⟨g, 9, none⟩ u4).heap.size = x.heap.size :=
  have h : Below 0 x (((((x.setCell ⟨g, 5, none⟩ u0).setCell ⟨g, 6, none⟩ u1).setCell ⟨g, 7, none⟩ u2).setCell ⟨g, 8, none⟩ u3).setCell ⟨g, 9, none⟩ u4) := (((((Below.refl 0 x).setCell (Nat.zero_le _) _).setCell (Nat.zero_le _) _).setCell (Nat.zero_le _) _).setCell (Nat.zero_le _) _).setCell (Nat.zero_le _) _
  ⟨h.os, h.tape, h.output, by simp⟩
theorem set12s_below {B g : Nat} {w x : World} (h : Below B w x) (hg : B ≤ g) (u0 u1 u2 u3 u4 : Value) : Below B w (((((x.setCell ⟨g, 5, none⟩ u0).setCell ⟨g, 6, none⟩ u1).setCell ⟨g, 7, none⟩ u2).setCell ⟨g, 8, none⟩ u3).setCell ⟨g, 9, none⟩ u4) :=
  (((((h).setCell hg _).setCell hg _).setCell hg _).setCell hg _).setCell hg _
theorem set12s_other {x : World} {g b : Nat} (hb : b ≠ g) (u0 u1 u2 u3 u4 : Value) : (((((x.setCell ⟨g, 5, none⟩ u0).setCell ⟨g, 6, none⟩ u1).setCell ⟨g, 7, none⟩ u2).setCell ⟨g, 8, none⟩ u3).setCell ⟨g, 9, none⟩ u4).heap[b]? = x.heap[b]? := by
  rw [Below.heap_setCell _ _ _ _ hb, Below.heap_setCell _ _ _ _ hb, Below.heap_setCell _ _ _ _ hb, Below.heap_setCell _ _ _ _ hb, Below.heap_setCell _ _ _ _ hb]
theorem set13s {x : World} {g : Nat} {c0 c1 c2 c3 c4 c5 c6 c7 c8 c9 c10 c11 c12 : Value} {t : TypeId} (h : x.heap[g]? = some (.cells #[c0, c1, c2, c3, c4, c5, c6, c7, c8, c9, c10, c11, c12] t)) (u0 u1 u2 u3 u4 : Value) :
    (((((x.setCell ⟨g, 8, none⟩ u0).setCell ⟨g, 9, none⟩ u1).setCell ⟨g, 10, none⟩ u2).setCell ⟨g, 11, none⟩ u3).setCell ⟨g, 12, none⟩ u4).heap[g]? = some (.cells #[c0, c1, c2, c3, c4, c5, c6, c7, u0, u1, u2, u3, u4] t) := by
  have h0 := heap_setCell_same x g 8 _ t u0 h
  have h1 := heap_setCell_same _ g 9 _ t u1 h0
  have h2 := heap_setCell_same _ g 10 _ t u2 h1
  have h3 := heap_setCell_same _ g 11 _ t u3 h2
  have h4 := heap_setCell_same _ g 12 _ t u4 h3
  simpa using h4
theorem set13s_same (x : World) (g : Nat) (u0 u1 u2 u3 u4 : Value) : (((((x.setCell ⟨g, 8, none⟩ u0).setCell ⟨g, 9, none⟩ u1).setCell ⟨g, 10, none⟩ u2).setCell ⟨g, 11, none⟩ u3).setCell ⟨g, 12, none⟩ u4).os = x.os ∧ (((((x.setCell ⟨g, 8, none⟩ u0).setCell ⟨g, 9, none⟩ u1).setCell ⟨g, 10, none⟩ u2).setCell ⟨g, 11, none⟩ u3).setCell ⟨g, 12, none⟩ u4).tape = x.tape ∧ (((((x.setCell ⟨g, 8, none⟩ u0).setCell ⟨g, 9, none⟩ u1).setCell ⟨g, 10, none⟩ u2).setCell ⟨g, 11, none⟩ u3).setCell ⟨g, 12, none⟩ u4).output = x.output ∧ (((((x.setCell ⟨g, 8, none⟩ u0).setCell ⟨g, 9, none⟩ u1).setCell ⟨g, 10, none⟩ u2).setCell ⟨g, 11, none⟩ u3).setCell ⟨g, 12, none⟩ u4).heap.size = x.heap.size :=
  have h : Below 0 x (((((x.setCell ⟨g, 8, none⟩ u0).setCell ⟨g, 9, none⟩ u1).setCell ⟨g, 10, none⟩ u2).setCell ⟨g, 11, none⟩ u3).setCell ⟨g, 12, none⟩ u4) := (((((Below.refl 0 x).setCell (Nat.zero_le _) _).setCell (Nat.zero_le _) _).setCell (Nat.zero_le _) _).setCell (Nat.zero_le _) _).setCell (Nat.zero_le _) _
  ⟨h.os, h.tape, h.output, by simp⟩
theorem set13s_below {B g : Nat} {w x : World} (h : Below B w x) (hg : B ≤ g) (u0 u1 u2 u3 u4 : Value) : Below B w (((((x.setCell ⟨g, 8, none⟩ u0).setCell ⟨g, 9, none⟩ u1).setCell ⟨g, 10, none⟩ u2).setCell ⟨g, 11, none⟩ u3).setCell ⟨g, 12, none⟩ u4) :=
  (((((h).setCell hg _).setCell hg _).setCell hg _).setCell hg _).setCell hg _
theorem set13s_other {x : World} {g b : Nat} (hb : b ≠ g) (u0 u1 u2 u3 u4 : Value) : (((((x.setCell ⟨g, 8, none⟩ u0).setCell ⟨g, 9, none⟩ u1).setCell ⟨g, 10, none⟩ u2).setCell ⟨g, 11, none⟩ u3).setCell ⟨g, 12, none⟩ u4).heap[b]? = x.heap[b]? := by
  rw [Below.heap_setCell _ _ _ _ hb, Below.heap_setCell _ _ _ _ hb, Below.heap_setCell _ _ _ _ hb, Below.heap_setCell _ _ _ _ hb, Below.heap_setCell _ _ _ _ hb]
theorem set13 {x : World} {g : Nat} {c0 c1 c2 c3 c4 c5 c6 c7 c8 c9 c10 c11 c12 : Value} {t : TypeId} (h : x.heap[g]? = some (.cells #[c0, c1, c2, c3, c4, c5, c6, c7, c8, c9, c10, c11, c12] t)) (u0 u1 u2 u3 u4 u5 u6 u7 u8 u9 u10 u11 u12 : Value) :
    (((((((((((((x.setCell ⟨g, 0, none⟩ u0).setCell ⟨g, 1, none⟩ u1).setCell ⟨g, 2, none⟩ u2).setCell ⟨g, 3, none⟩ u3).setCell ⟨g, 4, none⟩ u4).setCell ⟨g, 5, none⟩ u5).setCell ⟨g, 6, none⟩ u6).setCell ⟨g, 7, none⟩ u7).setCell ⟨g, 8, none⟩ u8).setCell ⟨g, 9, none⟩ u9).setCell ⟨g, 10, none⟩ u10).setCell ⟨g, 11, none⟩ u11).setCell ⟨g, 12, none⟩ u12).heap[g]? = some (.cells #[u0, u1, u2, u3, u4, u5, u6, u7, u8, u9, u10, u11, u12] t) := by
  have h0 := heap_setCell_same x g 0 _ t u0 h
  have h1 := heap_setCell_same _ g 1 _ t u1 h0
  have h2 := heap_setCell_same _ g 2 _ t u2 h1
  have h3 := heap_setCell_same _ g 3 _ t u3 h2
  have h4 := heap_setCell_same _ g 4 _ t u4 h3
  have h5 := heap_setCell_same _ g 5 _ t u5 h4
  have h6 := heap_setCell_same _ g 6 _ t u6 h5
  have h7 := heap_setCell_same _ g 7 _ t u7 h6
  have h8 := heap_setCell_same _ g 8 _ t u8 h7
  have h9 := heap_setCell_same _ g 9 _ t u9 h8
  have h10 := heap_setCell_same _ g 10 _ t u10 h9
  have h11 := heap_setCell_same _ g 11 _ t u11 h10
  have h12 := heap_setCell_same _ g 12 _ t u12 h11
  simpa using h12
theorem set13_same (x : World) (g : Nat) (u0 u1 u2 u3 u4 u5 u6 u7 u8 u9 u10 u11 u12 : Value) : (((((((((((((x.setCell ⟨g, 0, none⟩ u0).setCell ⟨g, 1, none⟩ u1).setCell ⟨g, 2, none⟩ u2).setCell ⟨g, 3, none⟩ u3).setCell ⟨g, 4, none⟩ u4).setCell ⟨g, 5, none⟩ u5).setCell ⟨g, 6, none⟩ u6).setCell ⟨g, 7, none⟩ u7).setCell ⟨g, 8, none⟩ u8).setCell ⟨g, 9, none⟩ u9).setCell ⟨g, 10, none⟩ u10).setCell ⟨g, 11, none⟩ u11).setCell ⟨g, 12, none⟩ u12).os = x.os ∧ (((((((((((((x.setCell ⟨g, 0, none⟩ u0).setCell ⟨g, 1, none⟩ u1).setCell ⟨g, 2, none⟩ u2).setCell ⟨g, 3, none⟩ u3).setCell ⟨g, 4, none⟩ u4).setCell ⟨g, 5, none⟩ u5).setCell ⟨g, 6, none⟩ u6).setCell ⟨g, 7, none⟩ u7).setCell ⟨g, 8, none⟩ u8).setCell ⟨g, 9, none⟩ u9).setCell ⟨g, 10, none⟩ u10).setCell ⟨g, 11, none⟩ u11).setCell ⟨g, 12, none⟩ u12).tape = x.tape ∧ (((((((((((((x.setCell ⟨g, 0, none⟩ u0).setCell ⟨g, 1, none⟩ u1).setCell ⟨g, 2, none⟩ u2).setCell ⟨g, 3, none⟩ u3).setCell ⟨g, 4, none⟩ u4).setCell ⟨g, 5, none⟩ u5).setCell ⟨g, 6, none⟩ u6).setCell ⟨g, 7, none⟩ u7).setCell ⟨g, 8, none⟩ u8).setCell ⟨g, 9, none⟩ u9).setCell ⟨g, 10, none⟩ u10).setCell ⟨g, 11, none⟩ u11).setCell ⟨g, 12, none⟩ u12).output = x.output ∧ (((((((((((((x.setCell ⟨g, 0, none⟩ u0).setCell ⟨g, 1, none⟩ u1).setCell ⟨g, 2, none⟩ u2).setCell ⟨g, 3, none⟩ u3).setCell ⟨g, 4, none⟩ u4).setCell ⟨g, 5, none⟩ u5).setCell ⟨g, 6, none⟩ u6).setCell ⟨g, 7, none⟩ u7).setCell ⟨g, 8, none⟩ u8).setCell ⟨g, 9, none⟩ u9).setCell ⟨g, 10, none⟩ u10).setCell ⟨g, 11, none⟩ u11).setCell ⟨g, 12, none⟩ u12).heap.size = x.heap.size :=
  have h : Below 0 x (((((((((((((x.setCell ⟨g, 0, none⟩ u0).setCell ⟨g, 1, none⟩ u1).setCell ⟨g, 2, none⟩ u2).setCell ⟨g, 3, none⟩ u3).setCell ⟨g, 4, none⟩ u4).setCell ⟨g, 5, none⟩ u5).setCell ⟨g, 6, none⟩ u6).setCell ⟨g, 7, none⟩ u7).setCell ⟨g, 8, none⟩ u8).setCell ⟨g, 9, none⟩ u9).setCell ⟨g, 10, none⟩ u10).setCell ⟨g, 11, none⟩ u11).setCell ⟨g, 12, none⟩ u12) := (((((((((((((Below.refl 0 x).setCell (Nat.zero_le _) _).setCell (Nat.zero_le _) _).setCell (Nat.zero_le _) _).setCell (Nat.zero_le _) _).setCell (Nat.zero_le _) _).setCell (Nat.zero_le _) _).setCell (Nat.zero_le _) _).setCell (Nat.zero_le _) _).setCell (Nat.zero_le _) _).setCell (Nat.zero_le _) _).setCell (Nat.zero_le _) _).setCell (Nat.zero_le _) _).setCell (Nat.zero_le _) _
  ⟨h.os, h.tape, h.output, by simp⟩
theorem set13_below {B g : Nat} {w x : World} (h : Below B w x) (hg : B ≤ g) (u0 u1 u2 u3 u4 u5 u6 u7 u8 u9 u10 u11 u12 : Value) : Below B w (((((((((((((x.setCell ⟨g, 0, none⟩ u0).setCell ⟨g, 1, none⟩ u1).setCell ⟨g, 2, none⟩ u2).setCell ⟨g, 3, none⟩ u3).setCell ⟨g, 4, none⟩ u4).setCell ⟨g, 5, none⟩ u5).setCell ⟨g, 6, none⟩ u6).setCell ⟨g, 7, none⟩ u7).setCell ⟨g, 8, none⟩ u8).setCell ⟨g, 9, none⟩ u9).setCell ⟨g, 10, none⟩ u10).setCell ⟨g, 11, none⟩ u11).setCell ⟨g, 12, none⟩ u12) :=
  (((((((((((((h).setCell hg _).setCell hg _).setCell hg _).setCell hg _).setCell hg _).setCell hg _).setCell hg _).setCell hg _).setCell hg _).setCell hg _).setCell hg _).setCell hg _).setCell hg _
theorem set13_other {x : World} {g b : Nat} (hb : b ≠ g) (u0 u1 u2 u3 u4 u5 u6 u7 u8 u9 u10 u11 u12 : Value) : (((((((((((((x.setCell ⟨g, 0, none⟩ u0).setCell ⟨g, 1, none⟩ u1).setCell ⟨g, 2, none⟩ u2).setCell ⟨g, 3, none⟩ u3).setCell ⟨g, 4, none⟩ u4).setCell ⟨g, 5, none⟩ u5).setCell ⟨g, 6, none⟩ u6).setCell ⟨g, 7, none⟩ u7).setCell ⟨g, 8, none⟩ u8).setCell ⟨g, 9, none⟩ u9).setCell ⟨g, 10, none⟩ u10).setCell ⟨g, 11, none⟩ u11).setCell ⟨g, 12, none⟩ u12).heap[b]? = x.heap[b]? := by
  rw [Below.heap_setCell _ _ _ _ hb, Below.heap_setCell _ _ _ _ hb, Below.heap_setCell _ _ _ _ hb, Below.heap_setCell _ _ _ _ hb, Below.heap_setCell _ _ _ _ hb, Below.heap_setCell _ _ _ _ hb, Below.heap_setCell _ _ _ _ hb, Below.heap_setCell _ _ _ _ hb, Below.heap_setCell _ _ _ _ hb, Below.heap_setCell _ _ _ _ hb, Below.heap_setCell _ _ _ _ hb, Below.heap_setCell _ _ _ _ hb, Below.heap_setCell _ _ _ _ hb]

theorem store_func (a : Addr) (f : FuncId) (xs ys : Array Value) (w : World) (val : Value) (h : w.cell? a = some val) (hf : w.frozen? a = false) :
    (store a (.func (.func f) xs ys)).run Tryz.prog w = .ok () (w.setCell a (.func (.func f) xs ys)) := by
  rw [run_store _ _ _ _ _ rfl, h]
  simp [hf]

abbrev nilS : Value := .slice none 0 0

end Go.Proofs.YtclgmikdjcjjdaaGreatDoor
