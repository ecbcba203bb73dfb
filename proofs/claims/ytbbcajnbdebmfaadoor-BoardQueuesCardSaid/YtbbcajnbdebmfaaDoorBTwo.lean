/-
  Two blackboards in one memory; acts done one after another. Conditions: none.
-/
import Derived.Test.YtbbcajnbdebmfaaDoorBPlay
import Derived.Test.YtbbcajnbdebmfaaDoorBSubs
import Derived.Test.YtbbcajnbdebmfaaDoorBLawsP
namespace Go.Proofs.YtbbcajnbdebmfaaDoor
open Go.RowKit

/-- Neither of two blackboards writes what the other has. -/
structure Dis (m n : Mem) : Prop where
  l : ∀ i, m.own i → ¬ n.own i ∧ ¬ n.ro i
  r : ∀ i, n.own i → ¬ m.ro i

theorem Dis.symm {m n : Mem} (h : Dis m n) : Dis n m := ⟨fun i hi => ⟨fun hm => (h.l i hm).1 hi, h.r i hi⟩, fun i hi hn => (h.l i hi).2 hn⟩

theorem Dis.turns {w w' : World} {m m' n : Mem} (h : Dis m n) (hT : Turns w w' m m') (hlt : ∀ i, n.own i ∨ n.ro i → i < w.heap.size) : Dis m' n where
  l := fun i hi => by
    rcases hT.own i hi with h1 | h1
    · exact h.l i h1
    · exact ⟨fun ho => by have := hlt i (.inl ho); omega, fun ho => by have := hlt i (.inr ho); omega⟩
  r := fun i hi hm => by
    rcases hT.ro i hm with h1 | h1
    · exact h.r i hi h1
    · have := hlt i (.inl hi); omega

/-- A blackboard that is made later. -/
theorem Dis.new {m n : Mem} {b : Nat} (h : ∀ i, m.own i ∨ m.ro i → i < b) (h' : ∀ i, n.own i ∨ n.ro i → b ≤ i) : Dis m n :=
  ⟨fun i hi => ⟨fun hn => by have := h i (.inl hi); have := h' i (.inl hn); omega, fun hn => by have := h i (.inl hi); have := h' i (.inr hn); omega⟩,
    fun i hi hm => by have := h i (.inr hm); have := h' i (.inl hi); omega⟩

/-- The other one stays. -/
theorem Play.other {w0 w w' : World} {k j : Nat} {m m' n : Mem} {S T : Bd} (h : Play w0 w j n T) (hP : Play w0 w k m S) (hT : Turns w w' m m') (hd : Dis m n) : Play w0 w' j n T :=
  ⟨h.is.frame hT.size (fun i hi => hT.block i (h.is.lt i hi) (fun ho => hi.elim (hd.l i ho).1 (hd.l i ho).2)), hT.below h.below hP.own, h.own⟩

/-- Acts done one after another. -/
def playsS (S : Bd) (l : List Ac) : Bd := l.foldl (fun S a => (doS S a.task a.c).1) S

theorem playsS_take {S : Bd} {l : List Ac} {k : Nat} {a : Ac} (h : l[k]? = some a) : playsS S (l.take (k + 1)) = (doS (playsS S (l.take k)) a.task a.c).1 := by
  unfold playsS
  rw [List.take_add_one, h]
  simp

theorem playsS_zero (S : Bd) (l : List Ac) : playsS S (l.take 0) = S := by simp [playsS]
theorem playsS_all (S : Bd) (l : List Ac) (k : Nat) (h : k = l.length) : playsS S (l.take k) = playsS S l := by subst h; rw [List.take_length]

/-- An argument that is one act. -/
abbrev actV1 (x : Ac) : Value := .agg #[.int .i64 x.task, .int .i64 x.c.kind, .int .i64 x.c.topic, .int .i64 x.c.sub, .int .i64 x.c.cap, .int .i64 x.c.rank, .int .i64 x.c.source, .int .i64 x.c.mode, .int .i64 x.c.flags, .bool x.c.free, x.sv, x.wv]
abbrev actO (x : Ac) : Obj := .cells #[.int .i64 x.task, .int .i64 x.c.kind, .int .i64 x.c.topic, .int .i64 x.c.sub, .int .i64 x.c.cap, .int .i64 x.c.rank, .int .i64 x.c.source, .int .i64 x.c.mode, .int .i64 x.c.flags, .bool x.c.free, x.sv, x.wv] 50

/-- A row of one act. -/
theorem acts_one (x : Ac) (w : World) (hs : Rd w x.sv 1 x.c.set.length (x.c.set.map (Value.int .i64))) (hw : Rd w x.wv 1 x.c.words.length (u64V x.c.words)) :
    ActsAt (w.alloc (actO x)) (.slice (some ⟨w.heap.size, 0, none⟩) 1 1) [x] := by
  refine ⟨some ⟨w.heap.size, 0, none⟩, 1, rfl, Nat.le_refl _, by unfold maxLen; omega, fun _ => ⟨w.heap.size, 0, rfl, by simp, fun i a ha => ?_⟩⟩
  match i, ha with
  | 0, ha =>
    obtain rfl : x = a := by simpa using ha
    obtain ⟨c0, c1, c2, c3, c4, c5, c6, c7, c8, c9, c10, c11, cf, cl⟩ := row12 (heap_alloc_new w (actO x))
    exact ⟨c0, c1, c2, c3, c4, c5, c6, c7, c8, c9, c10, c11, cl, hs.below (below_new w _), hw.below (below_new w _)⟩
  | i + 1, ha => simp at ha

theorem Still.genAt {f : Nat → Prop} {S T : Bd} (h : Still f S T) (t : Int) : T.genAt t = S.genAt t := by simp [Bd.genAt, Bd.has, Bd.gen, h.gens]
theorem Still.subsAt_len {f : Nat → Prop} {S T : Bd} (h : Still f S T) (ht : T.tasks = S.tasks) (t : Int) : (T.subsAt t).length = (S.subsAt t).length := by
  unfold Bd.subsAt
  rw [ht]
  split
  · exact h.row _
  · rfl
theorem Still.subsAt_same {f : Nat → Prop} {S T : Bd} (h : Still f S T) (ht : T.tasks = S.tasks) (t : Int) (hf : ¬ f t.toNat) : T.subsAt t = S.subsAt t := by
  unfold Bd.subsAt
  rw [ht, h.same _ hf]

end Go.Proofs.YtbbcajnbdebmfaaDoor
