/-
  Three blackboards in one memory. Conditions: none.
-/
import Derived.Test.YtbbcajnbdebmfaaDoorBCopiesP
import Derived.Test.YtbbcajnbdebmfaaDoorBClones
namespace Go.Proofs.YtbbcajnbdebmfaaDoor
open Go.RowKit

theorem Dis.clone {k : Nat} {w : World} {m m' : Mem} {S : Bd} (h : IsBd k w m S) (ho : ∀ i, m'.own i → w.heap.size ≤ i) (hr : ∀ i, m'.ro i → m.ro i) : Dis m m' :=
  ⟨fun i hi => ⟨fun hn => by have := h.lt i (.inl hi); have := ho i hn; omega, fun hn => h.disj i hi (hr i hn)⟩, fun i hi hm => by have := h.lt i (.inr hm); have := ho i hi; omega⟩

structure Trio (w wr : World) (kb kd ka : Nat) (mb md mt : Mem) (Sb Sd Sa : Bd) : Prop where
  b : Play w wr kb mb Sb
  d : Play w wr kd md Sd
  t : Play w wr ka mt Sa
  bd : Dis mb md
  bt : Dis mb mt
  dt : Dis md mt

section
variable {w wr v : World} {kb kd ka kb' kd' : Nat} {mb md mt mb' md' : Mem} {Sb Sd Sa Sb' Sd' : Bd}

theorem Trio.on (h : Trio w wr kb kd ka mb md mt Sb Sd Sa) (hb : Below wr.heap.size wr v) : Trio w v kb kd ka mb md mt Sb Sd Sa := ⟨h.b.on hb, h.d.on hb, h.t.on hb, h.bd, h.bt, h.dt⟩

theorem Trio.actb (h : Trio w wr kb kd ka mb md mt Sb Sd Sa) (P : Play w v kb' mb' Sb') (hT : Turns wr v mb mb') : Trio w v kb' kd ka mb' md mt Sb' Sd Sa :=
  ⟨P, h.d.other h.b hT h.bd, h.t.other h.b hT h.bt, h.bd.turns hT (fun i hi => h.d.is.lt i hi), h.bt.turns hT (fun i hi => h.t.is.lt i hi), h.dt⟩

theorem Trio.actd (h : Trio w wr kb kd ka mb md mt Sb Sd Sa) (P : Play w v kd' md' Sd') (hT : Turns wr v md md') : Trio w v kb kd' ka mb md' mt Sb Sd' Sa :=
  ⟨h.b.other h.d hT h.bd.symm, P, h.t.other h.d hT h.dt, (h.bd.symm.turns hT (fun i hi => h.b.is.lt i hi)).symm, h.bt, h.dt.turns hT (fun i hi => h.t.is.lt i hi)⟩

/-- What one of the three has. -/
def Any3 (mb md mt : Mem) (i : Nat) : Prop := (mb.own i ∨ mb.ro i) ∨ (md.own i ∨ md.ro i) ∨ (mt.own i ∨ mt.ro i)

theorem Play.frame {w0 w w' : World} {k : Nat} {m : Mem} {S : Bd} (h : Play w0 w k m S) (hs : w.heap.size ≤ w'.heap.size) (hb : Below w0.heap.size w0 w') (hk : ∀ i, m.own i ∨ m.ro i → w'.heap[i]? = w.heap[i]?) : Play w0 w' k m S := ⟨h.is.frame hs hk, hb, h.own⟩

theorem Trio.frame (h : Trio w wr kb kd ka mb md mt Sb Sd Sa) (hs : wr.heap.size ≤ v.heap.size) (hb : Below w.heap.size w v) (hk : ∀ i, Any3 mb md mt i → v.heap[i]? = wr.heap[i]?) : Trio w v kb kd ka mb md mt Sb Sd Sa :=
  ⟨h.b.frame hs hb (fun i hi => hk i (.inl hi)), h.d.frame hs hb (fun i hi => hk i (.inr (.inl hi))), h.t.frame hs hb (fun i hi => hk i (.inr (.inr hi))), h.bd, h.bt, h.dt⟩

theorem Trio.lt (h : Trio w wr kb kd ka mb md mt Sb Sd Sa) (i : Nat) (hi : Any3 mb md mt i) : i < wr.heap.size := by
  rcases hi with hi | hi | hi
  · exact h.b.is.lt i hi
  · exact h.d.is.lt i hi
  · exact h.t.is.lt i hi

theorem any_b (hT : Turns wr v mb mb') {i : Nat} (hi : Any3 mb' md mt i) : Any3 mb md mt i ∨ wr.heap.size ≤ i := by
  rcases hi with (hi | hi) | hi
  · exact (hT.own i hi).imp (fun h => .inl (.inl h)) id
  · exact (hT.ro i hi).imp (fun h => .inl (.inr h)) id
  · exact .inl (.inr hi)
theorem any_d (hT : Turns wr v md md') {i : Nat} (hi : Any3 mb md' mt i) : Any3 mb md mt i ∨ wr.heap.size ≤ i := by
  rcases hi with hi | (hi | hi) | hi
  · exact .inl (.inl hi)
  · exact (hT.own i hi).imp (fun h => .inr (.inl (.inl h))) id
  · exact (hT.ro i hi).imp (fun h => .inr (.inl (.inr h))) id
  · exact .inl (.inr (.inr hi))

/-- The three at the beginning: a blackboard, and two clones of it. -/
theorem Trio.start {k : Nat} {x1 x2 : World} {S : Bd} (hb : Play w x2 k mb S) (hb1 : IsBd k x1 mb S) (hd : IsBd k x2 md S) (ho1 : ∀ i, md.own i → x1.heap.size ≤ i) (hr1 : ∀ i, md.ro i → mb.ro i) (hw1 : w.heap.size ≤ x1.heap.size)
    (hx : Below w.heap.size w v) (hv : Below x2.heap.size x2 v) (ht : IsBd k v mt S) (ho2 : ∀ i, mt.own i → x2.heap.size ≤ i) (hr2 : ∀ i, mt.ro i → mb.ro i) (hw2 : w.heap.size ≤ x2.heap.size) : Trio w v k k k mb md mt S S S where
  b := hb.on hv
  d := ⟨hd.below hv, hx, fun i hi => Nat.le_trans hw1 (ho1 i hi)⟩
  t := ⟨ht, hx, fun i hi => Nat.le_trans hw2 (ho2 i hi)⟩
  bd := Dis.clone hb1 ho1 hr1
  bt := Dis.clone hb.is ho2 hr2
  dt := ⟨fun i hi => ⟨fun hn => by have := hd.lt i (.inl hi); have := ho2 i hn; omega, fun hn => (Dis.clone hb1 ho1 hr1).r i hi (hr2 i hn)⟩, fun i hi hm => by have := hd.lt i (.inr hm); have := ho2 i hi; omega⟩

end

/-- A row whose cells may be written. -/
def RowOk (w : World) (v : Value) (n : Nat) : Prop := 0 < n → ∃ (g c : Nat) (cells : Array Value) (t : TypeId), v = .slice (some ⟨g, 0, none⟩) n c ∧ w.heap[g]? = some (.cells cells t) ∧ n ≤ cells.size

theorem RowOk.of_own {w : World} {base : Nat} {e : TypeId} {v : Value} {n : Nat} {xs : List Value} (h : w.ownsRow base e 1 v n xs) : RowOk w v n := fun hn => by
  have hlen := h.1
  rcases h.2 with ⟨-, h2⟩ | ⟨g, cap, cur, h1, -, hh, hnc, -, hcs, -⟩
  · omega
  · exact ⟨g, cap, cur, _, h1, hh, by omega⟩

theorem RowOk.set {w : World} {v : Value} {n : Nat} (h : RowOk w v n) (b o : Nat) (u : Value) : RowOk (w.setCell ⟨b, o, none⟩ u) v n := fun hn => by
  obtain ⟨g, c, cells, t, h1, h2, h3⟩ := h hn
  by_cases hg : g = b
  · subst hg
    exact ⟨g, c, cells.setIfInBounds o u, t, h1, heap_setCell_same w g o cells t u h2, by simpa using h3⟩
  · exact ⟨g, c, cells, t, h1, (Below.heap_setCell w ⟨b, o, none⟩ u g hg).trans h2, h3⟩

theorem RowOk.keep {w w' : World} {v : Value} {n : Nat} (h : RowOk w v n) (hk : ∀ q, v.ownBlock = some q → w'.heap[q]? = w.heap[q]?) : RowOk w' v n := fun hn => by
  obtain ⟨g, c, cells, t, h1, h2, h3⟩ := h hn
  exact ⟨g, c, cells, t, h1, (hk g (by rw [h1]; rfl)).trans h2, h3⟩

/-- Two rows that are written over: what else lies in memory stays. -/
structure Ovr (z wr : World) (v u : Value) (n m : Nat) : Prop where
  os : wr.os = z.os
  tape : wr.tape = z.tape
  output : wr.output = z.output
  size : wr.heap.size = z.heap.size
  block : ∀ i, v.ownBlock ≠ some i → u.ownBlock ≠ some i → wr.heap[i]? = z.heap[i]?
  rv : RowOk wr v n
  ru : RowOk wr u m

theorem Ovr.start {z : World} {v u : Value} {n m : Nat} (h : RowOk z v n) (h' : RowOk z u m) : Ovr z z v u n m := ⟨rfl, rfl, rfl, rfl, fun _ _ _ => rfl, h, h'⟩

theorem Ovr.set {z wr : World} {v u : Value} {n m g q : Nat} (h : Ovr z wr v u n m) (hg : v.ownBlock = some g ∨ u.ownBlock = some g) (x : Value) : Ovr z (wr.setCell ⟨g, q, none⟩ x) v u n m where
  os := h.os
  tape := h.tape
  output := h.output
  size := by rw [← h.size]; simp
  block := fun i h1 h2 => (Below.heap_setCell wr ⟨g, q, none⟩ _ _ (fun e => by
    have e' : i = g := e
    subst e'
    exact hg.elim h1 h2)).trans (h.block i h1 h2)
  rv := h.rv.set _ _ _
  ru := h.ru.set _ _ _

theorem RowOk.cell {w : World} {v : Value} {n q : Nat} (h : RowOk w v n) (hq : q < n) : ∃ g c u, v = .slice (some ⟨g, 0, none⟩) n c ∧ w.cell? ⟨g, q, none⟩ = some u ∧ w.frozen? ⟨g, q, none⟩ = false ∧ g < w.heap.size := by
  obtain ⟨g, c, cells, t, h1, h2, h3⟩ := h (by omega)
  refine ⟨g, c, cells[q]'(by omega), h1, ?_, frozen_of h2 q, block_lt h2⟩
  rw [cell_of h2 q]
  exact Array.getElem?_eq_getElem (by omega)

end Go.Proofs.YtbbcajnbdebmfaaDoor
