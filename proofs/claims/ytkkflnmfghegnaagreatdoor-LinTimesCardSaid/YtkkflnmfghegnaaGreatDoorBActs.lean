/-
  A row of acts in memory, and the law's Few. Conditions: none.
  'ActsAt w v l': in the world w the value v is the row of acts l; 'lo' bounds the blocks that are read.
-/
import Derived.Test.YtkkflnmfghegnaaGreatDoorBTurn
namespace Go.Proofs.YtkkflnmfghegnaaGreatDoor
open Go.RowKit

/-- An act's two rows, as values. -/
structure Ac where
  task : Int
  c : Cl
  sv : Value
  wv : Value

/-- An act's cells, from place (b, o) on. -/
structure AcAt (w : World) (b o : Nat) (a : Ac) : Prop where
  c0 : w.cell? ⟨b, o, none⟩ = some (.int .i64 a.task)
  c1 : w.cell? ⟨b, o + 1, none⟩ = some (.int .i64 a.c.kind)
  c2 : w.cell? ⟨b, o + 2, none⟩ = some (.int .i64 a.c.topic)
  c3 : w.cell? ⟨b, o + 3, none⟩ = some (.int .i64 a.c.sub)
  c4 : w.cell? ⟨b, o + 4, none⟩ = some (.int .i64 a.c.cap)
  c5 : w.cell? ⟨b, o + 5, none⟩ = some (.int .i64 a.c.rank)
  c6 : w.cell? ⟨b, o + 6, none⟩ = some (.int .i64 a.c.source)
  c7 : w.cell? ⟨b, o + 7, none⟩ = some (.int .i64 a.c.mode)
  c8 : w.cell? ⟨b, o + 8, none⟩ = some (.int .i64 a.c.flags)
  c9 : w.cell? ⟨b, o + 9, none⟩ = some (.bool a.c.free)
  c10 : w.cell? ⟨b, o + 10, none⟩ = some a.sv
  c11 : w.cell? ⟨b, o + 11, none⟩ = some a.wv
  lt : b < w.heap.size
  set : Rd w a.sv 1 a.c.set.length (a.c.set.map (Value.int .i64))
  words : Rd w a.wv 1 a.c.words.length (u64V a.c.words)

theorem AcAt.below {w w' : World} {b o : Nat} {a : Ac} (h : AcAt w b o a) (hb : Below w.heap.size w w') : AcAt w' b o a :=
  ⟨(hb.cell (p := ⟨b, o, none⟩) h.lt).trans h.c0, (hb.cell (p := ⟨b, o + 1, none⟩) h.lt).trans h.c1, (hb.cell (p := ⟨b, o + 2, none⟩) h.lt).trans h.c2, (hb.cell (p := ⟨b, o + 3, none⟩) h.lt).trans h.c3, (hb.cell (p := ⟨b, o + 4, none⟩) h.lt).trans h.c4,
    (hb.cell (p := ⟨b, o + 5, none⟩) h.lt).trans h.c5, (hb.cell (p := ⟨b, o + 6, none⟩) h.lt).trans h.c6, (hb.cell (p := ⟨b, o + 7, none⟩) h.lt).trans h.c7, (hb.cell (p := ⟨b, o + 8, none⟩) h.lt).trans h.c8, (hb.cell (p := ⟨b, o + 9, none⟩) h.lt).trans h.c9,
    (hb.cell (p := ⟨b, o + 10, none⟩) h.lt).trans h.c10, (hb.cell (p := ⟨b, o + 11, none⟩) h.lt).trans h.c11, Nat.lt_of_lt_of_le h.lt hb.size, h.set.below hb, h.words.below hb⟩

/-- The row of acts. -/
def ActsAt (w : World) (v : Value) (l : List Ac) : Prop :=
  ∃ A c, v = .slice A l.length c ∧ l.length ≤ c ∧ c ≤ maxLen ∧ (0 < l.length → ∃ b o, A = some ⟨b, o, none⟩ ∧ b < w.heap.size ∧ ∀ i a, l[i]? = some a → AcAt w b (o + i * 12) a)

theorem ActsAt.below {w w' : World} {v : Value} {l : List Ac} (h : ActsAt w v l) (hb : Below w.heap.size w w') : ActsAt w' v l := by
  obtain ⟨A, c, hv, h1, h2, h3⟩ := h
  refine ⟨A, c, hv, h1, h2, fun hn => ?_⟩
  obtain ⟨b, o, hA, hlt, hat⟩ := h3 hn
  exact ⟨b, o, hA, Nat.lt_of_lt_of_le hlt hb.size, fun i a ha => (hat i a ha).below hb⟩

/-- Are the acts not too many, and not too great? -/
def fewA (l : List Ac) : Bool := decide (l.length ≤ 150) && l.all fun a => decide (a.c.set.length ≤ 100) && decide (a.c.words.length ≤ 100)

theorem fewA_true {l : List Ac} (h : fewA l = true) : l.length ≤ 150 ∧ ∀ a ∈ l, a.c.set.length ≤ 100 ∧ a.c.words.length ≤ 100 := by
  unfold fewA at h
  rw [Bool.and_eq_true, decide_eq_true_eq, List.all_eq_true] at h
  refine ⟨h.1, fun a ha => ?_⟩
  have := h.2 a ha
  simpa using this

end Go.Proofs.YtkkflnmfghegnaaGreatDoor
