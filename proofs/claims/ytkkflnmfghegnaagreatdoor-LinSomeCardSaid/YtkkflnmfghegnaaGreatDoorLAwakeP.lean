/-
  The laws' example, as plain data. Conditions: none.
-/
import Derived.Test.YtkkflnmfghegnaaGreatDoorLSomeT
import Derived.Test.YtkkflnmfghegnaaGreatDoorLBuild
namespace Go.Proofs.YtkkflnmfghegnaaGreatDoor
open Go.RowKit

/-- The example's config and events. -/
def exT : List Tp := [(⟨#[97]⟩, 1, 2)]
def exE1 : Ev := ⟨0, ⟨0, 0, 0, 0, 0, 0, 0, 0, false, [], []⟩, ⟨0, 0, 0, 0, 0, ⟨0, 0, false, 0, 0⟩, [], []⟩, 1, 1, 1⟩
def exE2 : Ev := ⟨0, ⟨1, 0, 0, 0, 0, 0, 0, 0, false, [], [5]⟩, ⟨0, 0, 1, 0, 0, ⟨0, 0, false, 0, 0⟩, [], []⟩, 2, 5, 5⟩
def exE3 (f a o : Int) : Ev := ⟨1, ⟨2, 0, 0, 0, 0, 0, 0, 0, false, [], []⟩, ⟨0, 0, 0, 0, 0, ⟨0, 0, false, 0, 0⟩, [], [0]⟩, f, a, o⟩
def exL (f a o : Int) : List Ev := [exE1, exE2, exE3 f a o]

theorem ex_check : checkS 2 exT 1 1 = (0, 0) := by decide +kernel

theorem three_pairs {such : Ev → Ev → Bool} {x y z : Ev} (h1 : such x y = false) (h2 : such x z = false) (h3 : such y z = false) : pairsB such [x, y, z] = false := by
  cases hp : pairsB such [x, y, z] with
  | false => rfl
  | true =>
    obtain ⟨i, j, a, b, hj, ha, hb, hs⟩ := (pairsB_iff _ _).1 hp
    have hi := (List.getElem?_eq_some_iff.1 hb).1
    simp at hi
    match i, j, hi, hj, ha, hb with
    | 1, 0, _, _, ha, hb => simp at ha hb; subst ha; subst hb; rw [h1] at hs; cases hs
    | 2, 0, _, _, ha, hb => simp at ha hb; subst ha; subst hb; rw [h2] at hs; cases hs
    | 2, 1, _, _, ha, hb => simp at ha hb; subst ha; subst hb; rw [h3] at hs; cases hs

theorem ex_ok : checkE (exL 3 4 6) = 0 := by
  unfold checkE exL
  rw [if_neg (by decide +kernel), if_neg (by rw [three_pairs (by decide +kernel) (by decide +kernel) (by decide +kernel)]; simp), if_neg (by rw [three_pairs (by decide +kernel) (by decide +kernel) (by decide +kernel)]; simp)]
theorem ex_ok7 : checkE (exL 7 7 8) = 0 := by
  unfold checkE exL
  rw [if_neg (by decide +kernel), if_neg (by rw [three_pairs (by decide +kernel) (by decide +kernel) (by decide +kernel)]; simp), if_neg (by rw [three_pairs (by decide +kernel) (by decide +kernel) (by decide +kernel)]; simp)]

theorem ex_order : IsOrder (exL 3 4 6) [0, 2, 1] where
  perm := by decide +kernel
  up := by decide +kernel

theorem ex_legal : legalC 2 exT 1 1 (exL 3 4 6) [0, 2, 1] = (0, 0) := legal_ok ex_check ex_ok (by decide +kernel) (by decide +kernel) (by decide +kernel)
theorem ex_breach : legalC 2 exT 1 1 (exL 3 4 6) [0, 1, 2] = (2, 25) := legal_does ex_check ex_ok (by decide +kernel) (by decide +kernel) (by decide +kernel)
theorem ex_late : legalC 2 exT 1 1 (exL 7 7 8) [0, 2, 1] = (2, 18) := legal_late ex_check ex_ok7 (by decide +kernel) (by decide +kernel)
theorem ex_some : someC 2 exT 1 1 (exL 3 4 6) = (some [0, 2, 1], 0) := some_some ex_check ex_ok (by decide +kernel) (by decide +kernel)

/-- The third event, turned. -/
def ev3x (g : Nat) (f a o : Int) : Em := ⟨exE3 f a o, none, 0, none, 0, none, 0, some ⟨g, 0, none⟩, 1⟩
abbrev exM (g2 g3 : Nat) (f a o : Int) : List Em := [ev1, ev2 g2, ev3x g3 f a o]
theorem ex_evs (g2 g3 : Nat) (f a o : Int) : evsOf (exM g2 g3 f a o) = exL f a o := rfl

/-- The example in memory. -/
structure ExAt (W : World) (T C G2 G3 E : Nat) (f a o : Int) : Prop where
  t : W.heap[T]? = some (.cells #[.string ⟨#[97]⟩, .int .i64 1, .int .i64 2] 75)
  c : W.heap[C]? = some (.cells #[.int .i64 2, .slice (some ⟨T, 0, none⟩) 1 1, .int .i64 1, .int .i64 1] 50)
  g2 : W.heap[G2]? = some (.cells #[.int .u64 5] 32)
  g3 : W.heap[G3]? = some (.cells #[.int .u64 0] 32)
  e : W.heap[E]? = some (.cells (flatE (exM G2 G3 f a o)).toArray 38)

theorem ExAt.below {W X : World} {T C G2 G3 E : Nat} {f a o : Int} (h : ExAt W T C G2 G3 E f a o) (hb : Below W.heap.size W X) : ExAt X T C G2 G3 E f a o :=
  ⟨(hb.block _ (block_lt h.t)).trans h.t, (hb.block _ (block_lt h.c)).trans h.c, (hb.block _ (block_lt h.g2)).trans h.g2, (hb.block _ (block_lt h.g3)).trans h.g3, (hb.block _ (block_lt h.e)).trans h.e⟩

theorem rd_block {W : World} {g n : Nat} {cs : Array Value} {t : TypeId} {xs : List Value} {size : Nat} (h : W.heap[g]? = some (.cells cs t)) (hx : cs.toList = xs) (hl : xs.length = n * size) (hn : n ≤ maxLen) : Rd W (.slice (some ⟨g, 0, none⟩) n n) size n xs :=
  ⟨hl, some ⟨g, 0, none⟩, n, rfl, Nat.le_refl _, hn, fun _ => ⟨g, 0, rfl, block_lt h, fun j u hj => by rw [Nat.zero_add, cell_of h]; rw [← hx] at hj; simpa using hj⟩⟩

theorem ExAt.cfg {W : World} {T C G2 G3 E : Nat} {f a o : Int} (h : ExAt W T C G2 G3 E f a o) : Rd W (.slice (some ⟨T, 0, none⟩) 1 1) 3 exT.length (flatT exT) :=
  rd_block h.t rfl rfl (by decide)

theorem ExAt.evs {W : World} {T C G2 G3 E : Nat} {f a o : Int} (h : ExAt W T C G2 G3 E f a o) : EvsAt W (.slice (some ⟨E, 0, none⟩) 3 3) (exM G2 G3 f a o) := by
  refine ⟨rd_block h.e rfl rfl (by decide), fun x hx => ?_⟩
  simp only [List.mem_cons, List.not_mem_nil, or_false] at hx
  rcases hx with rfl | rfl | rfl
  · exact ⟨Rd.nil _ _, Rd.nil _ _, Rd.nil _ _, Rd.nil _ _⟩
  · exact ⟨Rd.nil _ _, rd_block h.g2 rfl rfl (show (1 : Nat) ≤ maxLen by decide), Rd.nil _ _, Rd.nil _ _⟩
  · exact ⟨Rd.nil _ _, Rd.nil _ _, Rd.nil _ _, rd_block h.g3 rfl rfl (show (1 : Nat) ≤ maxLen by decide)⟩

theorem ExAt.small {g2 g3 : Nat} {f a o : Int} : ∀ e ∈ exM g2 g3 f a o, e.e.c.set.length ≤ 100 ∧ e.e.c.words.length ≤ 100 := fun e he => by
  simp only [List.mem_cons, List.not_mem_nil, or_false] at he
  rcases he with rfl | rfl | rfl
  · exact ⟨by decide, by decide⟩
  · exact ⟨by show 0 ≤ 100; omega, by show 1 ≤ 100; omega⟩
  · exact ⟨by show 0 ≤ 100; omega, by show 0 ≤ 100; omega⟩

theorem ExAt.set {W : World} {T C G2 G3 E : Nat} {f a o : Int} (h : ExAt W T C G2 G3 E f a o) (h1 : T ≠ E) (h2 : C ≠ E) (h3 : G2 ≠ E) (h4 : G3 ≠ E) (f' a' o' : Int) :
    ExAt (((W.setCell ⟨E, 78, none⟩ (.int .i64 f')).setCell ⟨E, 79, none⟩ (.int .i64 a')).setCell ⟨E, 80, none⟩ (.int .i64 o')) T C G2 G3 E f' a' o' := by
  have k : ∀ b, b ≠ E → (((W.setCell ⟨E, 78, none⟩ (.int .i64 f')).setCell ⟨E, 79, none⟩ (.int .i64 a')).setCell ⟨E, 80, none⟩ (.int .i64 o')).heap[b]? = W.heap[b]? := fun b hb => by
    rw [Below.heap_setCell _ _ _ _ hb, Below.heap_setCell _ _ _ _ hb, Below.heap_setCell _ _ _ _ hb]
  refine ⟨(k _ h1).trans h.t, (k _ h2).trans h.c, (k _ h3).trans h.g2, (k _ h4).trans h.g3, ?_⟩
  have e1 := heap_setCell_same W E 78 _ _ (.int .i64 f') h.e
  have e2 := heap_setCell_same _ E 79 _ _ (.int .i64 a') e1
  have e3 := heap_setCell_same _ E 80 _ _ (.int .i64 o') e2
  exact e3

theorem ex_at (w : World) : ExAt (((((w.alloc (.cells #[.string ⟨#[97]⟩, .int .i64 1, .int .i64 2] 75)).alloc (.cells #[.int .i64 2, .slice (some ⟨w.heap.size, 0, none⟩) 1 1, .int .i64 1, .int .i64 1] 50)).alloc (.cells #[.int .u64 5] 32)).alloc (.cells #[.int .u64 0] 32)).alloc (.cells (flatE [ev1, ev2 (w.heap.size + 1 + 1), ev3 (w.heap.size + 1 + 1 + 1)]).toArray 38))
    w.heap.size (w.heap.size + 1) (w.heap.size + 1 + 1) (w.heap.size + 1 + 1 + 1) (w.heap.size + 1 + 1 + 1 + 1) 3 4 6 := by
  obtain ⟨q1, q2, q3, q4, q5, -⟩ := five_rows' w (.cells #[.string ⟨#[97]⟩, .int .i64 1, .int .i64 2] 75) (.cells #[.int .i64 2, .slice (some ⟨w.heap.size, 0, none⟩) 1 1, .int .i64 1, .int .i64 1] 50) (.cells #[.int .u64 5] 32) (.cells #[.int .u64 0] 32) (.cells (flatE [ev1, ev2 (w.heap.size + 1 + 1), ev3 (w.heap.size + 1 + 1 + 1)]).toArray 38)
  exact ⟨q1, q2, q3, q4, q5⟩

end Go.Proofs.YtkkflnmfghegnaaGreatDoor
