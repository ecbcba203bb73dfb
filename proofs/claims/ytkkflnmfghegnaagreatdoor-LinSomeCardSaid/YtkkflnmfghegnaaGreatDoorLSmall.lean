/-
  Histories as plain data: which events may be one, in which order they took effect, which order is legal. No program in sight. Conditions: none. What a play comes to, as plain data: the steps of its picks, and what stays true behind each. Conditions: none. Events in memory: an event's cells, closed; rules for loading and storing one whole; a row of events. Conditions: none. The walks of an event's methods, of Ahead, and of Check's two questions on pairs. Conditions: none.
-/
import Derived.Test.YtkkflnmfghegnaaGreatDoorLOpenA
import Derived.Test.YtkkflnmfghegnaaGreatDoorBPlay
import Derived.Test.YtkkflnmfghegnaaGreatDoorBCopies
import Derived.Deep.MidRow
import Derived.Deep.WholeRow
namespace Go.Proofs.YtkkflnmfghegnaaGreatDoor
open Go.RowKit

/-- An event. -/
structure Ev where
  task : Int
  c : Cl
  a : An
  fr : Int
  at' : Int
  to' : Int

def failedB (e : Ev) : Bool := e.to' != 0 && (e.a.code == 19 || e.a.code == 20)
def bindB (e : Ev) : Bool := e.to' != 0 && !failedB e
def timedB (e : Ev) : Bool := decide (0 ≤ e.task) && decide (e.task < 8) && decide (1 ≤ e.fr) && (e.at' == 0 || decide (e.fr ≤ e.at')) && (e.to' == 0 || (decide (e.fr ≤ e.to') && decide (e.at' ≤ e.to')))
def aheadB (a b : Ev) : Bool := a.to' != 0 && decide (a.to' < b.fr)

/-- Some two, the first of which stands ahead of the second. -/
def SomePair (such : Ev → Ev → Bool) (l : List Ev) : Prop := ∃ (i j : Nat) (a b : Ev), j < i ∧ l[j]? = some a ∧ l[i]? = some b ∧ such a b = true

open Classical in
noncomputable def pairsB (such : Ev → Ev → Bool) (l : List Ev) : Bool := decide (SomePair such l)

def sameB (a b : Ev) : Bool := a.fr == b.fr || (a.at' == b.at' && a.at' != 0)
def bothB (a b : Ev) : Bool := a.task == b.task && !aheadB a b && !aheadB b a

noncomputable def checkE (l : List Ev) : Int := if l.all timedB = false then 10 else if pairsB sameB l = true then 15 else if pairsB bothB l = true then 18 else 0

theorem pairsB_iff (such : Ev → Ev → Bool) (l : List Ev) : pairsB such l = true ↔ SomePair such l := by unfold pairsB; simp

theorem checkE_ok {l : List Ev} (h : checkE l = 0) : (∀ e ∈ l, timedB e = true) ∧ ¬ SomePair sameB l ∧ ¬ SomePair bothB l := by
  unfold checkE at h
  split at h
  · cases h
  · rename_i h1
    split at h
    · cases h
    · rename_i h2
      split at h
      · cases h
      · rename_i h3
        refine ⟨fun e he => ?_, fun hs => h2 ((pairsB_iff _ _).2 hs), fun hs => h3 ((pairsB_iff _ _).2 hs)⟩
        have h1' : l.all timedB = true := by simpa using h1
        exact List.all_eq_true.1 h1' e he

/-- When an event took effect. -/
def atOf (l : List Ev) (k : Nat) : Int := match l[k]? with | some e => e.at' | none => 0

/-- The events that took effect, as they stand. -/
def tookL (l : List Ev) : List Nat := (List.range l.length).filter fun k => atOf l k != 0

/-- What an order by the moments is: those that took effect, each once, each later than the one ahead. -/
structure IsOrder (l : List Ev) (o : List Nat) : Prop where
  perm : o.Perm (tookL l)
  up : o.Pairwise fun i j => atOf l i < atOf l j

theorem IsOrder.unique {l : List Ev} {o p : List Nat} (h : IsOrder l o) (h' : IsOrder l p) : o = p := by
  refine List.Perm.eq_of_pairwise (le := fun i j => atOf l i < atOf l j) ?_ h.up h'.up (h.perm.trans h'.perm.symm)
  intro a b _ _ h1 h2
  omega

/-! ### which order is legal -/
def argB (n : Nat) (order : List Int) (i : Nat) : Bool := match order[i]? with | some k => decide (k < 0) || decide ((n : Int) ≤ k) || (order.take i).contains k | none => false
def missB (l : List Ev) (order : List Int) (k : Nat) : Bool := match l[k]? with | some e => bindB e && !order.contains (k : Int) | none => false

/-- The first below n that is such a one. -/
def firstB (f : Nat → Bool) (n : Nat) : Option Nat := (List.range n).find? f

theorem firstB_none {f : Nat → Bool} {n : Nat} (h : ∀ k, k < n → f k = false) : firstB f n = none := by
  unfold firstB
  rw [List.find?_eq_none]
  intro k hk
  rw [h k (List.mem_range.1 hk)]
  simp

theorem firstB_some {f : Nat → Bool} {n k : Nat} (hk : k < n) (h : ∀ j, j < k → f j = false) (hf : f k = true) : firstB f n = some k := by
  unfold firstB
  rw [List.find?_range_eq_some]
  exact ⟨hf, List.mem_range.2 hk, fun j hj => by rw [h j hj]; rfl⟩

def wholeS (l : List Ev) (order : List Int) : Int × Int :=
  match firstB (argB l.length order) order.length with
  | some i => (i, 1)
  | none => match firstB (missB l order) l.length with
    | some k => (k, 14)
    | none => (0, 0)

def aheadE (l : List Ev) (b k : Int) : Bool := match l[b.toNat]?, l[k.toNat]? with | some x, some y => aheadB x y | _, _ => false
def lateB (l : List Ev) (k : Int) (behind : List Int) : Bool := behind.any fun b => aheadE l b k

def lateFind (l : List Ev) : List Int → Option Int
  | [] => none
  | k :: r => if lateB l k r then some k else lateFind l r

def doesS (S : Bd) (e : Ev) : Bd × Bool := if failedB e then (S, true) else ((doS S e.task e.c).1, !bindB e || decide ((doS S e.task e.c).2 = e.a))

def doesFind (l : List Ev) : Bd → List Int → Option Int
  | _, [] => none
  | S, k :: r => match l[k.toNat]? with
    | none => none
    | some e => if (doesS S e).2 then doesFind l (doesS S e).1 r else some k

noncomputable def legalS (S : Bd) (l : List Ev) (order : List Int) : Int × Int :=
  if checkE l ≠ 0 then (0, checkE l) else if (wholeS l order).2 ≠ 0 then wholeS l order else match lateFind l order with
    | some k => (k, 18)
    | none => match doesFind l S order with
      | some k => (k, 25)
      | none => (0, 0)

/-! ### an order that is found -/
def mayNext (l : List Ev) (order : List Int) (k : Nat) : Bool := match l[k]? with | some e => !failedB e && !order.contains (k : Int) && order.all (fun a => !aheadE l k a) | none => false

def tryS (l : List Ev) : Nat → Bd → List Int → Option (List Int)
  | 0, _, _ => none
  | f + 1, S, order => if (wholeS l order).2 = 0 then some order else
      (List.range l.length).findSome? fun k => match l[k]? with
        | none => none
        | some e => if mayNext l order k && (doesS S e).2 then tryS l f (doesS S e).1 (order ++ [(k : Int)]) else none

end Go.Proofs.YtkkflnmfghegnaaGreatDoor

namespace Go.Proofs.YtkkflnmfghegnaaGreatDoor
open Go.RowKit

/-- Where a play stands: the blackboard, the events, how far each task is in the calls, its call that is under way, which call each event is, in which order calls took effect. -/
structure Hs where
  S : Bd
  l : List Ev
  at_ : List Nat
  un : List Int
  ix : List Nat
  o : List Nat

/-- An event that has begun. -/
def evB (w : Nat) (c : Cl) (t : Nat) : Ev := ⟨w, c, ⟨0, 0, 0, 0, 0, ⟨0, 0, false, 0, 0⟩, [], []⟩, t, 0, 0⟩
def evD (e : Ev) (t : Nat) (a : An) : Ev := { e with at' := t, a := a }
def evT2 (e : Ev) (t : Nat) : Ev := { e with to' := t }

inductive Runs (calls : List Ac) (S0 : Bd) : Nat → Nat → Nat → Hs → Prop
  | start : Runs calls S0 0 0 0 ⟨S0, [], List.replicate 8 0, List.replicate 8 (-1), [], []⟩
  | tick {t w n w' : Nat} {s : Hs} : Runs calls S0 t w n s → w' < 8 → Runs calls S0 (t + 1) w' 0 s
  | skip {t w n a : Nat} {c : Ac} {s : Hs} : Runs calls S0 t w n s → s.at_[w]? = some a → calls[a]? = some c → c.task % 8 ≠ w → Runs calls S0 t w n { s with at_ := s.at_.set w (a + 1) }
  | begin {t w a : Nat} {u : Int} {c : Ac} {s : Hs} : Runs calls S0 (t + 1) w 0 s → s.un[w]? = some u → u < 0 → s.at_[w]? = some a → calls[a]? = some c → c.task % 8 = w → Runs calls S0 (t + 1) w 1 { s with l := s.l ++ [evB w c.c (t + 1)], at_ := s.at_.set w (a + 1), un := s.un.set w (s.l.length : Int), ix := s.ix ++ [a] }
  | effect {t w n k : Nat} {e : Ev} {s : Hs} : Runs calls S0 t w n s → s.un[w]? = some (k : Int) → s.l[k]? = some e → e.at' = 0 → Runs calls S0 t w (n + 1) { s with S := (doS s.S w e.c).1, l := s.l.set k (evD e t (doS s.S w e.c).2), o := s.o ++ [k] }
  | done {t w n k : Nat} {e : Ev} {s : Hs} : Runs calls S0 t w n s → s.un[w]? = some (k : Int) → s.l[k]? = some e → e.at' ≠ 0 → Runs calls S0 t w (n + 1) { s with l := s.l.set k (evT2 e t), un := s.un.set w (-1) }

/-- What is true of a play that goes on. -/
structure HInv (calls : List Ac) (w : Nat) (s : Hs) : Prop where
  w8 : w < 8
  atl : s.at_.length = 8
  unl : s.un.length = 8
  un_lt : ∀ (w : Nat) (u : Int), s.un[w]? = some u → u < 0 ∨ ∃ k : Nat, u = k ∧ k < s.l.length
  at_le : ∀ (w a : Nat), s.at_[w]? = some a → a ≤ calls.length
  ixl : s.ix.length = s.l.length
  nd : s.ix.Nodup
  ok : ∀ (k : Nat) (e : Ev), s.l[k]? = some e → ∃ (j : Nat) (x : Ac) (v a : Nat), s.ix[k]? = some j ∧ calls[j]? = some x ∧ e.c = x.c ∧ e.task = v ∧ x.task % 8 = v ∧ s.at_[v]? = some a ∧ j < a

theorem set_at {α : Type} {l : List α} {k j : Nat} {x y : α} (h : (l.set k x)[j]? = some y) : (j = k ∧ y = x ∧ k < l.length) ∨ (j ≠ k ∧ l[j]? = some y) := by
  rw [List.getElem?_set] at h
  split at h
  · rename_i hk
    subst hk
    split at h
    · rename_i hl
      cases h
      exact .inl ⟨rfl, rfl, hl⟩
    · cases h
  · rename_i hk
    exact .inr ⟨fun e => hk e.symm, h⟩
theorem at_set {α : Type} {l : List α} {k : Nat} {x y : α} (h : l[k]? = some y) : (l.set k x)[k]? = some x := by
  rw [List.getElem?_set_self (List.getElem?_eq_some_iff.1 h).1]
theorem at_snoc {α : Type} {l : List α} {k : Nat} {x y : α} (h : (l ++ [x])[k]? = some y) : l[k]? = some y ∨ (k = l.length ∧ y = x) := by
  rw [List.getElem?_append] at h
  split at h
  · exact .inl h
  · rename_i hk
    have hk2 : k - l.length = 0 := by
      rcases Nat.eq_zero_or_pos (k - l.length) with h0 | h0
      · exact h0
      · rw [List.getElem?_eq_none (by simp; omega)] at h
        cases h
    rw [hk2] at h
    simp at h
    exact .inr ⟨by omega, h.symm⟩

/-- How far tasks are in the calls rises. -/
theorem ok_rise {calls : List Ac} {s : Hs} {w a : Nat} (h : s.at_[w]? = some a) {ix : List Nat} (k : Nat) (e : Ev)
    (hk : ∃ (j : Nat) (x : Ac) (v b : Nat), ix[k]? = some j ∧ calls[j]? = some x ∧ e.c = x.c ∧ e.task = v ∧ x.task % 8 = v ∧ s.at_[v]? = some b ∧ j < b) :
    ∃ (j : Nat) (x : Ac) (v b : Nat), ix[k]? = some j ∧ calls[j]? = some x ∧ e.c = x.c ∧ e.task = v ∧ x.task % 8 = v ∧ (s.at_.set w (a + 1))[v]? = some b ∧ j < b := by
  obtain ⟨j, x, v, b, h1, h2, h3, h4, h5, h6, h7⟩ := hk
  by_cases hv : v = w
  · subst hv
    rw [h] at h6
    cases h6
    exact ⟨j, x, v, a + 1, h1, h2, h3, h4, h5, at_set h, by omega⟩
  · exact ⟨j, x, v, b, h1, h2, h3, h4, h5, by rw [List.getElem?_set_ne (fun e => hv e.symm)]; exact h6, h7⟩

theorem at_rise {calls : List Ac} {s : Hs} {w a : Nat} {c : Ac} (hi : ∀ (w a : Nat), s.at_[w]? = some a → a ≤ calls.length) (hc : calls[a]? = some c) (v b : Nat) (h : (s.at_.set w (a + 1))[v]? = some b) : b ≤ calls.length := by
  rcases set_at h with ⟨-, rfl, -⟩ | ⟨-, h⟩
  · exact (List.getElem?_eq_some_iff.1 hc).1
  · exact hi v b h

theorem Runs.inv {calls : List Ac} {S0 : Bd} {t w n : Nat} {s : Hs} (h : Runs calls S0 t w n s) : HInv calls w s := by
  induction h with
  | start =>
    refine ⟨by omega, rfl, rfl, fun w u h => .inl ?_, fun w a h => ?_, rfl, List.nodup_nil, fun k e h => by cases h⟩
    · obtain ⟨-, h⟩ := List.mem_replicate.1 (List.mem_of_getElem? h)
      rw [h]; decide
    · obtain ⟨-, h⟩ := List.mem_replicate.1 (List.mem_of_getElem? h)
      rw [h]; exact Nat.zero_le _
  | tick _ hw ih => exact ⟨hw, ih.atl, ih.unl, ih.un_lt, ih.at_le, ih.ixl, ih.nd, ih.ok⟩
  | skip _ ha hc _ ih =>
    exact ⟨ih.w8, by simpa using ih.atl, ih.unl, ih.un_lt, at_rise ih.at_le hc, ih.ixl, ih.nd, fun k e h => ok_rise ha k e (ih.ok k e h)⟩
  | @begin t w a u c s _ hu hu0 ha hc ht ih =>
    refine ⟨ih.w8, by simpa using ih.atl, by simpa using ih.unl, fun v x h => ?_, at_rise ih.at_le hc, by simp [ih.ixl], ?_, fun k e h => ?_⟩
    · rcases set_at h with ⟨-, rfl, -⟩ | ⟨-, h⟩
      · exact .inr ⟨s.l.length, rfl, by simp⟩
      · rcases ih.un_lt v x h with h1 | ⟨k, h1, h2⟩
        · exact .inl h1
        · exact .inr ⟨k, h1, by simp; omega⟩
    · rw [List.nodup_append]
      refine ⟨ih.nd, List.nodup_cons.2 ⟨by simp, List.nodup_nil⟩, fun x hx y hy => ?_⟩
      simp at hy
      subst hy
      rintro rfl
      obtain ⟨k, hk, hkx⟩ := List.getElem_of_mem hx
      have hkl : k < s.l.length := by rw [← ih.ixl]; exact hk
      obtain ⟨j, z, v, b, h1, h2, h3, h4, h5, h6, h7⟩ := ih.ok k _ (List.getElem?_eq_getElem hkl)
      have hkj : s.ix[k]? = some x := by rw [List.getElem?_eq_getElem hk, hkx]
      rw [hkj] at h1
      cases h1
      rw [hc] at h2
      cases h2
      have hv : v = w := by omega
      subst hv
      rw [ha] at h6
      cases h6
      omega
    · rcases at_snoc h with h | ⟨rfl, rfl⟩
      · obtain ⟨j, x, v, b, h1, h2⟩ := ih.ok k e h
        exact ok_rise ha k e ⟨j, x, v, b, by rw [List.getElem?_append_left (List.getElem?_eq_some_iff.1 h1).1]; exact h1, h2⟩
      · exact ⟨a, c, w, a + 1, by rw [← ih.ixl, List.getElem?_append_right (Nat.le_refl _)]; simp, hc, rfl, rfl, ht, at_set ha, by omega⟩
  | @effect t w n k e s _ hu he _ ih =>
    refine ⟨ih.w8, ih.atl, ih.unl, fun v x h => ?_, ih.at_le, by simpa using ih.ixl, ih.nd, fun j x h => ?_⟩
    · simpa using ih.un_lt v x h
    · rcases set_at h with ⟨rfl, rfl, -⟩ | ⟨-, h⟩
      · exact ih.ok _ e he
      · exact ih.ok j x h
  | @done t w n k e s _ hu he _ ih =>
    refine ⟨ih.w8, ih.atl, by simpa using ih.unl, fun v x h => ?_, ih.at_le, by simpa using ih.ixl, ih.nd, fun j x h => ?_⟩
    · rcases set_at h with ⟨-, rfl, -⟩ | ⟨-, h⟩
      · exact .inl (by decide)
      · simpa using ih.un_lt v x h
    · rcases set_at h with ⟨rfl, rfl, -⟩ | ⟨-, h⟩
      · exact ih.ok _ e he
      · exact ih.ok j x h

/-- Different numbers below n are n at most. -/
theorem nodup_le : ∀ (n : Nat) (l : List Nat), l.Nodup → (∀ x ∈ l, x < n) → l.length ≤ n
  | 0, l, _, h => by
    match l with
    | [] => exact Nat.le_refl _
    | x :: r => exact absurd (h x (List.mem_cons_self)) (by omega)
  | n + 1, l, hd, h => by
    have h1 := nodup_le n (l.erase n) (hd.erase n) (fun x hx => by
      have h2 := (List.Nodup.mem_erase_iff hd).1 hx
      have := h x h2.2
      have := h2.1
      omega)
    have h2 : l.length ≤ (l.erase n).length + 1 := by
      rw [List.length_erase]
      split <;> omega
    omega

theorem HInv.len {calls : List Ac} {w : Nat} {s : Hs} (h : HInv calls w s) : s.l.length ≤ calls.length := by
  rw [← h.ixl]
  refine nodup_le _ _ h.nd fun x hx => ?_
  obtain ⟨k, hk, hkx⟩ := List.getElem_of_mem hx
  have hkl : k < s.l.length := by rw [← h.ixl]; exact hk
  obtain ⟨j, z, v, b, h1, h2, -⟩ := h.ok k _ (List.getElem?_eq_getElem hkl)
  rw [List.getElem?_eq_getElem hk, hkx] at h1
  cases h1
  exact (List.getElem?_eq_some_iff.1 h2).1

theorem HInv.call {calls : List Ac} {w : Nat} {s : Hs} (h : HInv calls w s) {e : Ev} (he : e ∈ s.l) : ∃ x ∈ calls, e.c = x.c := by
  obtain ⟨k, hk, rfl⟩ := List.getElem_of_mem he
  obtain ⟨j, z, v, b, h1, h2, h3, -⟩ := h.ok k _ (List.getElem?_eq_getElem hk)
  exact ⟨z, List.mem_of_getElem? h2, h3⟩

end Go.Proofs.YtkkflnmfghegnaaGreatDoor

namespace Go.Proofs.YtkkflnmfghegnaaGreatDoor
open Go.RowKit

/-- An event, and where its four rows lie. -/
structure Em where
  e : Ev
  sp : Option Addr
  sc : Nat
  wp : Option Addr
  wc : Nat
  gp : Option Addr
  gc : Nat
  up : Option Addr
  uc : Nat

/-- What an event's rows are. -/
structure EmRd (w : World) (a : Em) : Prop where
  set : Rd w (.slice a.sp a.e.c.set.length a.sc) 1 a.e.c.set.length (a.e.c.set.map (Value.int .i64))
  words : Rd w (.slice a.wp a.e.c.words.length a.wc) 1 a.e.c.words.length (u64V a.e.c.words)
  gens : Rd w (.slice a.gp a.e.a.gens.length a.gc) 1 a.e.a.gens.length (natL a.e.a.gens)
  ans : Rd w (.slice a.up a.e.a.words.length a.uc) 1 a.e.a.words.length (u64V a.e.a.words)

theorem EmRd.below {w w' : World} {a : Em} (h : EmRd w a) (hb : Below w.heap.size w w') : EmRd w' a := ⟨h.set.below hb, h.words.below hb, h.gens.below hb, h.ans.below hb⟩

/-- An event's cells. -/
def cellsE (a : Em) : List Value := [.int .i64 a.e.task, .int .i64 a.e.c.kind, .int .i64 a.e.c.topic, .int .i64 a.e.c.sub, .int .i64 a.e.c.cap, .int .i64 a.e.c.rank, .int .i64 a.e.c.source, .int .i64 a.e.c.mode, .int .i64 a.e.c.flags, .bool a.e.c.free, .slice a.sp a.e.c.set.length a.sc, .slice a.wp a.e.c.words.length a.wc, .int .i64 a.e.a.code, .int .i64 a.e.a.sub, .int .u64 a.e.a.gen, .int .i64 a.e.a.count, .int .u64 a.e.a.lost, .int .i64 a.e.a.st.mode, .int .i64 a.e.a.st.source, .bool a.e.a.st.hold, .int .i64 a.e.a.st.flags, .int .u64 a.e.a.st.epoch, .slice a.gp a.e.a.gens.length a.gc, .slice a.up a.e.a.words.length a.uc, .int .i64 a.e.fr, .int .i64 a.e.at', .int .i64 a.e.to']
/-- The same, as an array; closed for the walks. -/
def evC (a : Em) : Array Value := (cellsE a).toArray
abbrev evV (a : Em) : Value := .agg (evC a)
abbrev evO (a : Em) : Obj := .cells (evC a) 38
theorem cellsE_len (a : Em) : (cellsE a).length = 27 := rfl
@[simp] theorem evC_size (a : Em) : (evC a).size = 27 := rfl
theorem evV_cells (a : Em) : (evV a).cells = evC a := rfl
theorem evC_one (a : Em) : (evC a).all (·.oneCell') = true := all_oneCell_toArray fun v hv => by
  unfold cellsE at hv
  simp only [List.mem_cons, List.not_mem_nil, or_false] at hv
  rcases hv with h | h | h | h | h | h | h | h | h | h | h | h | h | h | h | h | h | h | h | h | h | h | h | h | h | h | h <;> rw [h] <;> rfl

@[simp] theorem evC_0 (a : Em) : (evC a)[0]? = some (.int .i64 a.e.task) := rfl
@[simp] theorem evC_1 (a : Em) : (evC a)[1]? = some (.int .i64 a.e.c.kind) := rfl
@[simp] theorem evC_2 (a : Em) : (evC a)[2]? = some (.int .i64 a.e.c.topic) := rfl
@[simp] theorem evC_3 (a : Em) : (evC a)[3]? = some (.int .i64 a.e.c.sub) := rfl
@[simp] theorem evC_4 (a : Em) : (evC a)[4]? = some (.int .i64 a.e.c.cap) := rfl
@[simp] theorem evC_5 (a : Em) : (evC a)[5]? = some (.int .i64 a.e.c.rank) := rfl
@[simp] theorem evC_6 (a : Em) : (evC a)[6]? = some (.int .i64 a.e.c.source) := rfl
@[simp] theorem evC_7 (a : Em) : (evC a)[7]? = some (.int .i64 a.e.c.mode) := rfl
@[simp] theorem evC_8 (a : Em) : (evC a)[8]? = some (.int .i64 a.e.c.flags) := rfl
@[simp] theorem evC_9 (a : Em) : (evC a)[9]? = some (.bool a.e.c.free) := rfl
@[simp] theorem evC_10 (a : Em) : (evC a)[10]? = some (.slice a.sp a.e.c.set.length a.sc) := rfl
@[simp] theorem evC_11 (a : Em) : (evC a)[11]? = some (.slice a.wp a.e.c.words.length a.wc) := rfl
@[simp] theorem evC_12 (a : Em) : (evC a)[12]? = some (.int .i64 a.e.a.code) := rfl
@[simp] theorem evC_13 (a : Em) : (evC a)[13]? = some (.int .i64 a.e.a.sub) := rfl
@[simp] theorem evC_14 (a : Em) : (evC a)[14]? = some (.int .u64 a.e.a.gen) := rfl
@[simp] theorem evC_15 (a : Em) : (evC a)[15]? = some (.int .i64 a.e.a.count) := rfl
@[simp] theorem evC_16 (a : Em) : (evC a)[16]? = some (.int .u64 a.e.a.lost) := rfl
@[simp] theorem evC_17 (a : Em) : (evC a)[17]? = some (.int .i64 a.e.a.st.mode) := rfl
@[simp] theorem evC_18 (a : Em) : (evC a)[18]? = some (.int .i64 a.e.a.st.source) := rfl
@[simp] theorem evC_19 (a : Em) : (evC a)[19]? = some (.bool a.e.a.st.hold) := rfl
@[simp] theorem evC_20 (a : Em) : (evC a)[20]? = some (.int .i64 a.e.a.st.flags) := rfl
@[simp] theorem evC_21 (a : Em) : (evC a)[21]? = some (.int .u64 a.e.a.st.epoch) := rfl
@[simp] theorem evC_22 (a : Em) : (evC a)[22]? = some (.slice a.gp a.e.a.gens.length a.gc) := rfl
@[simp] theorem evC_23 (a : Em) : (evC a)[23]? = some (.slice a.up a.e.a.words.length a.uc) := rfl
@[simp] theorem evC_24 (a : Em) : (evC a)[24]? = some (.int .i64 a.e.fr) := rfl
@[simp] theorem evC_25 (a : Em) : (evC a)[25]? = some (.int .i64 a.e.at') := rfl
@[simp] theorem evC_26 (a : Em) : (evC a)[26]? = some (.int .i64 a.e.to') := rfl

/-- An event that is none yet. -/
def evNil : Em := ⟨⟨0, ⟨0, 0, 0, 0, 0, 0, 0, 0, false, [], []⟩, ⟨0, 0, 0, 0, 0, ⟨0, 0, false, 0, 0⟩, [], []⟩, 0, 0, 0⟩, none, 0, none, 0, none, 0, none, 0⟩

theorem info_ev : (Tryz.prog.info? 38).map (fun i => (i.zero, i.size, i.bytes)) = some (some (evV evNil), 27, 280) := by kernel_rfl
theorem size_ev : (Tryz.prog.info? 38).map (·.size) = some 27 := by kernel_rfl

/-- A whole event is loaded, stored, made anew: closed for the walks. -/
def loadEv (p : Addr) : Sem Value := loadVar 38 p
def storeEv (p : Addr) (v : Value) : Sem Unit := storeVar 38 p v
def zeroEv : Sem Value := zeroValue 38
@[go_sem ↓] theorem loadVar_ev (p : Addr) : loadVar 38 p = loadEv p := rfl
@[go_sem ↓] theorem storeVar_ev (p : Addr) (v : Value) : storeVar 38 p v = storeEv p v := rfl
@[go_sem ↓] theorem zeroValue_ev : zeroValue 38 = zeroEv := rfl
@[simp] theorem run_zeroEv (w : World) : zeroEv.run Tryz.prog w = .ok (evV evNil) w := Tryz.zeroValue38 w

theorem run_loadEv {w : World} {b o : Nat} {a : Em} (h : w.rangeAt b o (cellsE a)) : (loadEv ⟨b, o, none⟩).run Tryz.prog w = .ok (evV a) w :=
  run_loadVar_mid w b o 38 (cellsE a) _ h Tryz.underlying38 rfl size_ev

@[simp] theorem run_loadEv_new (w : World) (n : Nat) (a : Em) (t : TypeId) (hn : n = w.heap.size) : (loadEv ⟨n, 0, none⟩).run Tryz.prog (w.alloc (.cells (evC a) t)) = .ok (evV a) (w.alloc (.cells (evC a) t)) := by
  subst hn
  refine run_loadEv fun j v hv => ?_
  rw [World.cell?_alloc_new, Nat.zero_add]
  exact (List.getElem?_toArray).trans hv

@[simp] theorem run_storeEv_new (w : World) (n : Nat) (a b : Em) (t : TypeId) (hn : n = w.heap.size) : (storeEv ⟨n, 0, none⟩ (evV a)).run Tryz.prog (w.alloc (.cells (evC b) t)) = .ok () (w.alloc (.cells (evC a) t)) := by
  subst hn
  refine (run_storeVar_row _ _ t 38 (evC b) (evC a) (heap_alloc_new w _) size_ev rfl (evC_one a)).trans ?_
  rw [World.setRow_alloc_new]

@[simp] theorem run_loadEv_new2 (w : World) (n : Nat) (a : Em) (t : TypeId) (o : Obj) (hn : n = w.heap.size) : (loadEv ⟨n, 0, none⟩).run Tryz.prog ((w.alloc (.cells (evC a) t)).alloc o) = .ok (evV a) ((w.alloc (.cells (evC a) t)).alloc o) := by
  subst hn
  refine run_loadEv fun j v hv => ?_
  rw [World.cell?_alloc_lt _ _ _ (by simp), World.cell?_alloc_new, Nat.zero_add]
  exact (List.getElem?_toArray).trans hv

/-- An event in memory. -/
structure EmAt (w : World) (b o : Nat) (a : Em) : Prop where
  rng : w.rangeAt b o (cellsE a)
  lt : b < w.heap.size
  rd : EmRd w a

theorem EmAt.c0 {w : World} {b o : Nat} {a : Em} (h : EmAt w b o a) : w.cell? ⟨b, o, none⟩ = some (.int .i64 a.e.task) := h.rng 0 _ rfl
theorem EmAt.c1 {w : World} {b o : Nat} {a : Em} (h : EmAt w b o a) : w.cell? ⟨b, o + 1, none⟩ = some (.int .i64 a.e.c.kind) := h.rng 1 _ rfl
theorem EmAt.c2 {w : World} {b o : Nat} {a : Em} (h : EmAt w b o a) : w.cell? ⟨b, o + 2, none⟩ = some (.int .i64 a.e.c.topic) := h.rng 2 _ rfl
theorem EmAt.c3 {w : World} {b o : Nat} {a : Em} (h : EmAt w b o a) : w.cell? ⟨b, o + 3, none⟩ = some (.int .i64 a.e.c.sub) := h.rng 3 _ rfl
theorem EmAt.c4 {w : World} {b o : Nat} {a : Em} (h : EmAt w b o a) : w.cell? ⟨b, o + 4, none⟩ = some (.int .i64 a.e.c.cap) := h.rng 4 _ rfl
theorem EmAt.c5 {w : World} {b o : Nat} {a : Em} (h : EmAt w b o a) : w.cell? ⟨b, o + 5, none⟩ = some (.int .i64 a.e.c.rank) := h.rng 5 _ rfl
theorem EmAt.c6 {w : World} {b o : Nat} {a : Em} (h : EmAt w b o a) : w.cell? ⟨b, o + 6, none⟩ = some (.int .i64 a.e.c.source) := h.rng 6 _ rfl
theorem EmAt.c7 {w : World} {b o : Nat} {a : Em} (h : EmAt w b o a) : w.cell? ⟨b, o + 7, none⟩ = some (.int .i64 a.e.c.mode) := h.rng 7 _ rfl
theorem EmAt.c8 {w : World} {b o : Nat} {a : Em} (h : EmAt w b o a) : w.cell? ⟨b, o + 8, none⟩ = some (.int .i64 a.e.c.flags) := h.rng 8 _ rfl
theorem EmAt.c9 {w : World} {b o : Nat} {a : Em} (h : EmAt w b o a) : w.cell? ⟨b, o + 9, none⟩ = some (.bool a.e.c.free) := h.rng 9 _ rfl
theorem EmAt.c10 {w : World} {b o : Nat} {a : Em} (h : EmAt w b o a) : w.cell? ⟨b, o + 10, none⟩ = some (.slice a.sp a.e.c.set.length a.sc) := h.rng 10 _ rfl
theorem EmAt.c11 {w : World} {b o : Nat} {a : Em} (h : EmAt w b o a) : w.cell? ⟨b, o + 11, none⟩ = some (.slice a.wp a.e.c.words.length a.wc) := h.rng 11 _ rfl
theorem EmAt.c12 {w : World} {b o : Nat} {a : Em} (h : EmAt w b o a) : w.cell? ⟨b, o + 12, none⟩ = some (.int .i64 a.e.a.code) := h.rng 12 _ rfl
theorem EmAt.c13 {w : World} {b o : Nat} {a : Em} (h : EmAt w b o a) : w.cell? ⟨b, o + 13, none⟩ = some (.int .i64 a.e.a.sub) := h.rng 13 _ rfl
theorem EmAt.c14 {w : World} {b o : Nat} {a : Em} (h : EmAt w b o a) : w.cell? ⟨b, o + 14, none⟩ = some (.int .u64 a.e.a.gen) := h.rng 14 _ rfl
theorem EmAt.c15 {w : World} {b o : Nat} {a : Em} (h : EmAt w b o a) : w.cell? ⟨b, o + 15, none⟩ = some (.int .i64 a.e.a.count) := h.rng 15 _ rfl
theorem EmAt.c16 {w : World} {b o : Nat} {a : Em} (h : EmAt w b o a) : w.cell? ⟨b, o + 16, none⟩ = some (.int .u64 a.e.a.lost) := h.rng 16 _ rfl
theorem EmAt.c17 {w : World} {b o : Nat} {a : Em} (h : EmAt w b o a) : w.cell? ⟨b, o + 17, none⟩ = some (.int .i64 a.e.a.st.mode) := h.rng 17 _ rfl
theorem EmAt.c18 {w : World} {b o : Nat} {a : Em} (h : EmAt w b o a) : w.cell? ⟨b, o + 18, none⟩ = some (.int .i64 a.e.a.st.source) := h.rng 18 _ rfl
theorem EmAt.c19 {w : World} {b o : Nat} {a : Em} (h : EmAt w b o a) : w.cell? ⟨b, o + 19, none⟩ = some (.bool a.e.a.st.hold) := h.rng 19 _ rfl
theorem EmAt.c20 {w : World} {b o : Nat} {a : Em} (h : EmAt w b o a) : w.cell? ⟨b, o + 20, none⟩ = some (.int .i64 a.e.a.st.flags) := h.rng 20 _ rfl
theorem EmAt.c21 {w : World} {b o : Nat} {a : Em} (h : EmAt w b o a) : w.cell? ⟨b, o + 21, none⟩ = some (.int .u64 a.e.a.st.epoch) := h.rng 21 _ rfl
theorem EmAt.c22 {w : World} {b o : Nat} {a : Em} (h : EmAt w b o a) : w.cell? ⟨b, o + 22, none⟩ = some (.slice a.gp a.e.a.gens.length a.gc) := h.rng 22 _ rfl
theorem EmAt.c23 {w : World} {b o : Nat} {a : Em} (h : EmAt w b o a) : w.cell? ⟨b, o + 23, none⟩ = some (.slice a.up a.e.a.words.length a.uc) := h.rng 23 _ rfl
theorem EmAt.c24 {w : World} {b o : Nat} {a : Em} (h : EmAt w b o a) : w.cell? ⟨b, o + 24, none⟩ = some (.int .i64 a.e.fr) := h.rng 24 _ rfl
theorem EmAt.c25 {w : World} {b o : Nat} {a : Em} (h : EmAt w b o a) : w.cell? ⟨b, o + 25, none⟩ = some (.int .i64 a.e.at') := h.rng 25 _ rfl
theorem EmAt.c26 {w : World} {b o : Nat} {a : Em} (h : EmAt w b o a) : w.cell? ⟨b, o + 26, none⟩ = some (.int .i64 a.e.to') := h.rng 26 _ rfl

theorem EmAt.load {w : World} {b o : Nat} {a : Em} (h : EmAt w b o a) : (loadEv ⟨b, o, none⟩).run Tryz.prog w = .ok (evV a) w := run_loadEv h.rng
theorem EmAt.below {w w' : World} {b o : Nat} {a : Em} (h : EmAt w b o a) (hb : Below w.heap.size w w') : EmAt w' b o a :=
  ⟨fun j v hv => (hb.cell (p := ⟨b, o + j, none⟩) h.lt).trans (h.rng j v hv), Nat.lt_of_lt_of_le h.lt hb.size, h.rd.below hb⟩
theorem EmAt.new {w : World} {a : Em} (h : EmRd w a) : EmAt (w.alloc (evO a)) w.heap.size 0 a :=
  ⟨fun j v hv => by rw [World.cell?_alloc_new, Nat.zero_add]; exact (List.getElem?_toArray).trans hv, by simp, h.below (below_new w _)⟩
theorem EmAt.of_block {w : World} {b : Nat} {a : Em} (h : w.heap[b]? = some (evO a)) (hr : EmRd w a) : EmAt w b 0 a :=
  ⟨fun j v hv => by rw [cell_of h, Nat.zero_add]; exact (List.getElem?_toArray).trans hv, block_lt h, hr⟩

theorem rng_below {w w' : World} {b o : Nat} {cs : List Value} (h : w.rangeAt b o cs) (hl : b < w.heap.size) (hb : Below w.heap.size w w') : w'.rangeAt b o cs := fun j v hv => (hb.cell (p := ⟨b, o + j, none⟩) hl).trans (h j v hv)
theorem rng_new (w : World) (a : Em) (t : TypeId) : (w.alloc (.cells (evC a) t)).rangeAt w.heap.size 0 (cellsE a) := fun j v hv => by
  rw [World.cell?_alloc_new, Nat.zero_add]
  exact (List.getElem?_toArray).trans hv
/-- Two events, boxed one behind the other, in a later world. -/
theorem two_ev {w w' : World} {a b : Em} (hb : Below ((w.alloc (evO a)).alloc (evO b)).heap.size ((w.alloc (evO a)).alloc (evO b)) w') :
    (loadEv ⟨w.heap.size, 0, none⟩).run Tryz.prog w' = .ok (evV a) w' ∧ (loadEv ⟨w.heap.size + 1, 0, none⟩).run Tryz.prog w' = .ok (evV b) w' := by
  refine ⟨run_loadEv (rng_below (rng_below (rng_new w a _) (by simp) (below_new _ _)) (by simp; omega) hb), run_loadEv (rng_below ?_ (by simp) hb)⟩
  have := rng_new (w.alloc (evO a)) b 38
  rw [alloc_size] at this
  exact this

/-- A row of events, cell by cell. -/
def flatE (l : List Em) : List Value := l.flatMap cellsE

theorem flatE_len (l : List Em) : (flatE l).length = l.length * 27 := by
  induction l with
  | nil => rfl
  | cons a r ih => simp [flatE, cellsE] at ih ⊢; omega

theorem flatE_at : ∀ (l : List Em) (k : Nat) (a : Em) (j : Nat) (u : Value), l[k]? = some a → (cellsE a)[j]? = some u → (flatE l)[k * 27 + j]? = some u
  | [], k, a, j, u, h, _ => by simp at h
  | b :: r, 0, a, j, u, h, hu => by
    simp at h
    subst h
    have hj : j < (cellsE b).length := (List.getElem?_eq_some_iff.1 hu).1
    simp only [flatE, List.flatMap_cons, Nat.zero_mul, Nat.zero_add]
    rw [List.getElem?_append_left hj]
    exact hu
  | b :: r, k + 1, a, j, u, h, hu => by
    simp at h
    have hl : (cellsE b).length = 27 := rfl
    simp only [flatE, List.flatMap_cons]
    rw [List.getElem?_append_right (by rw [hl]; omega), hl, show (k + 1) * 27 + j - 27 = k * 27 + j by omega]
    exact flatE_at r k a j u h hu

theorem flatE_snoc (l : List Em) (a : Em) : flatE (l ++ [a]) = flatE l ++ cellsE a := by simp [flatE]

/-- The row of events. -/
def EvsAt (w : World) (v : Value) (l : List Em) : Prop := Rd w v 27 l.length (flatE l) ∧ ∀ a ∈ l, EmRd w a

theorem EvsAt.below {w w' : World} {v : Value} {l : List Em} (h : EvsAt w v l) (hb : Below w.heap.size w w') : EvsAt w' v l := ⟨h.1.below hb, fun a ha => (h.2 a ha).below hb⟩

theorem EvsAt.open_ {w : World} {v : Value} {l : List Em} (h : EvsAt w v l) (hn : 0 < l.length) : ∃ b o c, v = .slice (some ⟨b, o, none⟩) l.length c ∧ l.length ≤ c ∧ c ≤ maxLen ∧ b < w.heap.size ∧ ∀ k a, l[k]? = some a → EmAt w b (o + k * 27) a := by
  obtain ⟨b, o, c, hv, h1, h2, hb, hc⟩ := h.1.open_ hn
  refine ⟨b, o, c, hv, h1, h2, hb, fun k a ha => ⟨fun j u hu => ?_, hb, h.2 a (List.mem_of_getElem? ha)⟩⟩
  have := hc (k * 27 + j) u (flatE_at l k a j u ha hu)
  rw [← Nat.add_assoc] at this
  exact this

theorem EvsAt.open_n {w : World} {A : Option Addr} {n c : Nat} {l : List Em} (h : EvsAt w (.slice A n c) l) (hl : n = l.length) (hn : 0 < n) : ∃ b o, A = some ⟨b, o, none⟩ ∧ b < w.heap.size ∧ ∀ k a, l[k]? = some a → EmAt w b (o + k * 27) a := by
  obtain ⟨b, o, c', hv, -, -, hb, hat⟩ := h.open_ (by omega)
  cases hv
  exact ⟨b, o, rfl, hb, hat⟩

abbrev evsOf (l : List Em) : List Ev := l.map Em.e

end Go.Proofs.YtkkflnmfghegnaaGreatDoor

namespace Go.Proofs.YtkkflnmfghegnaaGreatDoor
open Go.RowKit

theorem ret_b {x y : Bool} (h : x = y) : Ending.returned (.bool x) = .returned (.bool y) := by rw [h]

set_option maxRecDepth 100000 in
set_option maxHeartbeats 800000 in
theorem failed_any (a : Em) (w : World) :
    Calls Tryz.prog 46 #[evV a] w fun e w' => e = .returned (.bool (failedB a.e)) ∧ Below w.heap.size w w' := by
  go_enter Tryz.func46, Tryz.ntmps46
  go_wp2
  all_goals (
    go_ret
    exact ⟨ret_b (by simp_all [failedB]), below_new w _⟩)

set_option maxRecDepth 100000 in
set_option maxHeartbeats 1600000 in
theorem timed_any (a : Em) (w : World) :
    Calls Tryz.prog 28 #[evV a] w fun e w' => e = .returned (.bool (timedB a.e)) ∧ Below w.heap.size w w' := by
  go_enter Tryz.func28, Tryz.ntmps28
  go_wp2
  all_goals (
    go_ret
    refine ⟨ret_b ?_, below_new w _⟩
    rw [Bool.eq_iff_iff]
    simp [timedB]
    try omega)

set_option maxRecDepth 100000 in
set_option maxHeartbeats 1600000 in
theorem binding_any (a : Em) (w : World) :
    Calls Tryz.prog 66 #[evV a] w fun e w' => e = .returned (.bool (bindB a.e)) ∧ Below w.heap.size w w' := by
  have HF := hide (fun w' => failed_any a w')
  obtain ⟨v, hv⟩ : ∃ v, v = failedB a.e := ⟨_, rfl⟩
  rw [← hv] at HF
  have hbv : bindB a.e = (a.e.to' != 0 && !v) := by rw [hv]; rfl
  rw [hbv]
  clear hbv hv
  by_cases h1 : a.e.to' = 0
  · go_enter Tryz.func66, Tryz.ntmps66
    go_wp2
    go_ret
    exact ⟨by simp [h1], below_new w _⟩
  · cases v
    all_goals (
      go_enter Tryz.func66, Tryz.ntmps66
      go_wp2_with fail
      refine (HF.out _).mono ?_
      rintro e w1 ⟨rfl, hb1⟩
      have Hb1 := hide (below2 (below_new w _) hb1)
      clear hb1
      go_wp2
      go_ret
      exact ⟨ret_b (by simp_all), Hb1.out⟩)

set_option maxRecDepth 100000 in
set_option maxHeartbeats 1600000 in
theorem ahead_any (a b : Em) (w : World) :
    Calls Tryz.prog 15 #[evV a, evV b] w fun e w' => e = .returned (.bool (aheadB a.e b.e)) ∧ Below w.heap.size w w' := by
  go_enter Tryz.func15, Tryz.ntmps15
  go_wp2
  all_goals (
    go_ret
    refine ⟨ret_b ?_, below_new2 w _ _⟩
    rw [Bool.eq_iff_iff]
    simp [aheadB]
    try omega)

set_option maxRecDepth 100000 in
set_option maxHeartbeats 1600000 in
theorem same_any (a b : Em) (w : World) :
    Calls Tryz.prog 30 #[evV a, evV b] w fun e w' => e = .returned (.bool (sameB a.e b.e)) ∧ Below w.heap.size w w' := by
  go_enter Tryz.func30, Tryz.ntmps30
  go_wp2
  all_goals (
    go_ret
    refine ⟨ret_b ?_, below_new2 w _ _⟩
    simp_all [sameB])

set_option maxRecDepth 100000 in
set_option maxHeartbeats 1600000 in
theorem both_any (a b : Em) (w : World) :
    Calls Tryz.prog 31 #[evV a, evV b] w fun e w' => e = .returned (.bool (bothB a.e b.e)) ∧ Below w.heap.size w w' := by
  have HF := hide (fun w' => ahead_any a b w')
  have HG := hide (fun w' => ahead_any b a w')
  obtain ⟨u, hu⟩ : ∃ v, v = aheadB a.e b.e := ⟨_, rfl⟩
  obtain ⟨v, hv⟩ : ∃ v, v = aheadB b.e a.e := ⟨_, rfl⟩
  rw [← hu] at HF
  rw [← hv] at HG
  have hbv : bothB a.e b.e = (a.e.task == b.e.task && !u && !v) := by rw [hv, hu]; rfl
  rw [hbv]
  clear hbv hv hu
  by_cases h1 : a.e.task = b.e.task
  · cases u
    · cases v
      all_goals (
        go_enter Tryz.func31, Tryz.ntmps31
        go_wp2_with fail
        refine (HF.out _).mono ?_
        rintro e w1 ⟨rfl, hb1⟩
        obtain ⟨L1, L2⟩ := two_ev hb1
        have Hb1 := hide (below2 (below_new2 w _ _) hb1)
        clear hb1
        go_wp2_with fail
        refine (HG.out _).mono ?_
        rintro e w2 ⟨rfl, hb2⟩
        have Hb2 := hide (below2 Hb1.out hb2)
        clear hb2
        go_wp2
        go_ret
        exact ⟨by simp [h1], Hb2.out⟩)
    · go_enter Tryz.func31, Tryz.ntmps31
      go_wp2_with fail
      refine (HF.out _).mono ?_
      rintro e w1 ⟨rfl, hb1⟩
      have Hb1 := hide (below2 (below_new2 w _ _) hb1)
      clear hb1
      go_wp2
      go_ret
      exact ⟨by simp, Hb1.out⟩
  · go_enter Tryz.func31, Tryz.ntmps31
    go_wp2
    go_ret
    exact ⟨by simp [h1], below_new2 w _ _⟩

end Go.Proofs.YtkkflnmfghegnaaGreatDoor
