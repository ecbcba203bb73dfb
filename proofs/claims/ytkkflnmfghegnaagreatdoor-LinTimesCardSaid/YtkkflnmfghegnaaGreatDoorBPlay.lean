/-
  A blackboard that a law plays on; words; the laws' awake. Conditions: the calls' fields and the ways between modes, in memory.
-/
import Derived.Test.YtkkflnmfghegnaaGreatDoorBDo
import Derived.Test.YtkkflnmfghegnaaGreatDoorBNew
import Derived.Test.YtkkflnmfghegnaaGreatDoorBSubs
import Derived.Test.YtkkflnmfghegnaaGreatDoorBActs
namespace Go.Proofs.YtkkflnmfghegnaaGreatDoor
open Go.RowKit

/-- Since w0 a blackboard was laid and k calls were done on it: m is S. -/
structure Play (w0 w : World) (k : Nat) (m : Mem) (S : Bd) : Prop where
  is : IsBd k w m S
  below : Below w0.heap.size w0 w
  own : ∀ i, m.own i → w0.heap.size ≤ i

theorem Play.on {w0 w x : World} {k : Nat} {m : Mem} {S : Bd} (h : Play w0 w k m S) (hb : Below w.heap.size w x) : Play w0 x k m S :=
  ⟨h.is.below hb, below2 h.below hb, h.own⟩

theorem Turns.below {w0 w w' : World} {m m' : Mem} (h : Turns w w' m m') (hb : Below w0.heap.size w0 w) (ho : ∀ i, m.own i → w0.heap.size ≤ i) : Below w0.heap.size w0 w' :=
  ⟨h.os.trans hb.os, h.tape.trans hb.tape, h.output.trans hb.output, Nat.le_trans hb.size h.size, fun i hi => (h.block i (Nat.lt_of_lt_of_le hi hb.size) (fun hm => by have := ho i hm; omega)).trans (hb.block i hi)⟩

/-- What a call of Do leaves to a law. -/
def ActPost (w0 w : World) (k : Nat) (m : Mem) (x : Bd × An) (e : Ending) (w' : World) : Prop :=
  ∃ m' gv wv, e = .returned (anV x.2 gv wv) ∧ Play w0 w' k m' x.1 ∧ Turns w w' m m' ∧ w'.ownsRow w.heap.size 32 1 gv x.2.gens.length (natL x.2.gens) ∧ w'.ownsRow w.heap.size 32 1 wv x.2.words.length (u64V x.2.words) ∧
    (∀ q, gv.ownBlock = some q ∨ wv.ownBlock = some q → ¬ m'.own q ∧ ¬ m'.ro q)

theorem Play.act {w0 w : World} {k : Nat} {m : Mem} {S : Bd} (h : Play w0 w k m S) (hF : FieldsAt w0) (hW : WaysAt w0) (hk : k + 1 ≤ 1000000) (task : Int) (c : Cl) (sv wv : Value)
    (hs : Rd w sv 1 c.set.length (c.set.map (Value.int .i64))) (hw : Rd w wv 1 c.words.length (u64V c.words)) (hs1 : c.set.length ≤ 100) (hw1 : c.words.length ≤ 100) (hwo : 0 < c.words.length → ∀ q, wv.ownBlock = some q → ¬ m.own q) :
    Calls Tryz.prog 36 #[.pointer (some ⟨m.bb, 0, none⟩), .int .i64 task, clV c sv wv] w fun e w' => ActPost w0 w (k + 1) m (doS S task c) e w' := by
  refine (do_any task c sv wv w h.is hk (hF.below h.below) (hW.below h.below) hs hw hs1 hw1 hwo).mono ?_
  rintro e w' ⟨m', gv, wv', rfl, hIs, hTu, hgv, hwv, hf⟩
  refine ⟨m', gv, wv', rfl, ⟨hIs, hTu.below h.below h.own, fun i hi => ?_⟩, hTu, hgv, hwv, hf⟩
  rcases hTu.own i hi with h1 | h1
  · exact h.own i h1
  · exact Nat.le_trans h.below.size h1

/-- A call of an act. -/
theorem Play.acts {w0 w : World} {k : Nat} {m : Mem} {S : Bd} (h : Play w0 w k m S) (hF : FieldsAt w0) (hW : WaysAt w0) (hk : k + 1 ≤ 1000000) {b o : Nat} {a : Ac} (ha : AcAt w0 b o a) (h1 : a.c.set.length ≤ 100) (h2 : a.c.words.length ≤ 100) :
    Calls Tryz.prog 36 #[.pointer (some ⟨m.bb, 0, none⟩), .int .i64 a.task, clV a.c a.sv a.wv] w fun e w' => ActPost w0 w (k + 1) m (doS S a.task a.c) e w' := by
  refine h.act hF hW hk a.task a.c a.sv a.wv (ha.set.below h.below) (ha.words.below h.below) h1 h2 (fun hn q hq ho => ?_)
  obtain ⟨b', o', c', hv, -, -, hb, -⟩ := ha.words.open_ hn
  rw [hv] at hq
  cases hq
  have h9 : w0.heap.size ≤ b' := h.own _ ho
  omega

end Go.Proofs.YtkkflnmfghegnaaGreatDoor
