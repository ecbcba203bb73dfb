/-
  Rows in memory that have one owner each, by labels; a slice of one's own that begins behind its row's beginning. Conditions: none. The document's blackboard as plain data, and what each call leaves of it. No program in sight. Conditions: none. The document's blackboard in memory. Conditions: none.
  'IsRef base w lab m X': in the world w the blocks of m, each with its owner, are the blackboard X of lists.
-/
import Derived.Test.YtclgmikdjcjjdaaGreatDoorBRefP
import Derived.Test.YtclgmikdjcjjdaaGreatDoorBLib
import Derived.ArgAppend
import Derived.Maps.AppendAt
namespace Go.Proofs.YtclgmikdjcjjdaaGreatDoor
open Go.RowKit

/-- Whose a row is. -/
inductive Lb
  | board | recs | mine | subs
  | rec_ (t : Nat) | word (t g : Nat) | mineT (k : Nat) | subsT (k : Nat) | q (k i : Nat)
deriving DecidableEq

/-- A slice of one's own, that may begin behind its row's beginning. -/
def OwnOff (w : World) (base : Nat) (e : TypeId) (v : Value) (n : Nat) (xs : List Value) : Prop :=
  xs.length = n ∧ ((v = .slice none 0 0 ∧ n = 0) ∨
    ∃ g o cap cur, v = .slice (some ⟨g, o, none⟩) n cap ∧ base ≤ g ∧ w.heap[g]? = some (.cells cur e (0, 0)) ∧ n ≤ cap ∧ cap ≤ maxLen ∧ o + cap ≤ cur.size ∧ (cur.toList.drop o).take n = xs)

theorem OwnOff.of {w : World} {base : Nat} {e : TypeId} {v : Value} {n : Nat} {xs : List Value} (h : w.ownsRow base e 1 v n xs) : OwnOff w base e v n xs := by
  refine ⟨by simpa using h.1, ?_⟩
  rcases h.2 with h1 | ⟨g, cap, cur, hv, hb, hg, h1, h2, h3, h4⟩
  · exact .inl h1
  · exact .inr ⟨g, 0, cap, cur, hv, hb, hg, h1, h2, by omega, by simpa using h4⟩

theorem OwnOff.keep {w w' : World} {base : Nat} {e : TypeId} {v : Value} {n : Nat} {xs : List Value} (h : OwnOff w base e v n xs) (hk : ∀ q, v.ownBlock = some q → w'.heap[q]? = w.heap[q]?) : OwnOff w' base e v n xs := by
  refine ⟨h.1, ?_⟩
  rcases h.2 with hn | ⟨g, o, cap, cur, rfl, hb, hg, rest⟩
  · exact .inl hn
  · exact .inr ⟨g, o, cap, cur, rfl, hb, (hk g rfl).trans hg, rest⟩

theorem OwnOff.rd {w : World} {base : Nat} {e : TypeId} {v : Value} {n : Nat} {xs : List Value} (h : OwnOff w base e v n xs) : Rd w v 1 n xs := by
  refine ⟨by simpa using h.1, ?_⟩
  rcases h.2 with ⟨rfl, rfl⟩ | ⟨g, o, cap, cur, rfl, hb, hg, h1, h2, h3, h4⟩
  · exact ⟨none, 0, rfl, Nat.le_refl _, by simp [maxLen], fun h => absurd h (by omega)⟩
  · refine ⟨some ⟨g, o, none⟩, cap, rfl, h1, h2, fun _ => ⟨g, o, rfl, block_lt hg, fun j u hj => ?_⟩⟩
    have hj' : j < n := by rw [← h.1]; exact (List.getElem?_eq_some_iff.1 hj).1
    rw [cell_of hg]
    rw [← h4, List.getElem?_take_of_lt hj', List.getElem?_drop] at hj
    simpa using hj

theorem OwnOff.lt {w : World} {base : Nat} {e : TypeId} {v : Value} {n : Nat} {xs : List Value} (h : OwnOff w base e v n xs) {q : Nat} (hq : v.ownBlock = some q) : base ≤ q ∧ q < w.heap.size := by
  rcases h.2 with ⟨rfl, -⟩ | ⟨g, o, cap, cur, rfl, hb, hg, -⟩
  · cases hq
  · obtain rfl : g = q := by simpa [Value.ownBlock] using hq
    exact ⟨hb, block_lt hg⟩

/-- The first element is left out. -/
theorem OwnOff.tail {w : World} {base : Nat} {e : TypeId} {g o n cap : Nat} {x : Value} {xs : List Value} (h : OwnOff w base e (.slice (some ⟨g, o, none⟩) (n + 1) cap) (n + 1) (x :: xs)) (c' o' : Nat) (hc : c' = cap - 1) (ho : o' = if cap = 1 then o else o + 1) : OwnOff w base e (.slice (some ⟨g, o', none⟩) n c') n xs := by
  subst hc ho
  have hl : xs.length = n := by have := h.1; simpa using this
  refine ⟨hl, .inr ?_⟩
  rcases h.2 with ⟨h0, -⟩ | ⟨g', o1, cap', cur, hv, hb, hg, h1, h2, h3, h4⟩
  · cases h0
  · cases hv
    refine ⟨g, _, cap - 1, cur, rfl, hb, hg, by omega, by omega, ?_, ?_⟩
    · split <;> omega
    · split
      · rename_i hc1
        have : n = 0 := by omega
        subst this
        rw [List.take_zero]
        exact (List.eq_nil_of_length_eq_zero hl).symm
      · have hd : cur.toList.drop o = x :: cur.toList.drop (o + 1) := by
          have hne : cur.toList.drop o ≠ [] := by
            intro hn
            rw [hn] at h4
            simp at h4
          cases hdr : cur.toList.drop o with
          | nil => exact absurd hdr hne
          | cons y r =>
            rw [hdr, List.take_succ_cons] at h4
            have h5 : y = x := (List.cons.inj h4).1
            rw [h5]
            congr 1
            have : cur.toList.drop (o + 1) = (cur.toList.drop o).drop 1 := by rw [List.drop_drop]
            rw [this, hdr]
            rfl
        rw [hd, List.take_succ_cons] at h4
        exact (List.cons.inj h4).2

theorem grown_setCell' (w : World) (g o : Nat) (u : Value) : w.grownBy (w.setCell ⟨g, o, none⟩ u) (some g) :=
  ⟨rfl, rfl, rfl, by simp, fun k _ hk => heap_setCell_other w ⟨g, o, none⟩ k u (fun e => hk (by rw [e]))⟩

/-- An element is appended. -/
theorem append_off {P : Program} (w : World) (base : Nat) (t ty e : TypeId) (i : TypeInfo) (z : Value) (bytes : Nat) (ht : P.underlying t = some (.slice e)) (hi : P.info? e = some i) (hz : i.zero = some z)
    (hsize : i.size = 1) (hby : i.bytes = bytes) (hzs : z.cells.size = 1) (v : Value) (n : Nat) (xs : List Value) (h : OwnOff w base e v n xs) (a : Addr) (c : Nat) (u : Value) (hu : w.cell? a = some u) (h1 : u.oneCell' = true)
    (h63 : n + 1 ≤ 100000) (hb8 : bytes ≤ 1000) (hbase : base ≤ w.heap.size) :
    ∃ v' w', (Builtin.append_ #[t, t] ty #[v, .slice (some a) 1 c]).run P w = .ok v' w' ∧ OwnOff w' base e v' (n + 1) (xs ++ [u]) ∧ w.grownBy w' v.ownBlock ∧ (v'.ownBlock = v.ownBlock ∨ ∀ q, v'.ownBlock = some q → w.heap.size ≤ q) := by
  have hnews : ∀ j x, ([u] : List Value)[j]? = some x → w.cell? (a.add j) = some x := fun j x hj => by
    match j, hj with
    | 0, hj =>
      cases hj
      have : a.add 0 = a := by simp [Addr.add]
      rw [this]
      exact hu
  have hone : ∀ x ∈ ([u] : List Value), x.oneCell' = true := fun x hx => by
    simp at hx
    rw [hx]
    exact h1
  have hbb : (n + 1) * bytes ≤ 140737488355328 := by
    have : (n + 1) * bytes ≤ 100000 * 1000 := Nat.mul_le_mul h63 hb8
    omega
  have hmx : n + 1 ≤ maxLen := by unfold maxLen; omega
  rcases h.2 with ⟨rfl, rfl⟩ | ⟨g, o, cap, cur, rfl, hb, hg, hnc, hcm, hcs, htake⟩
  · have hxs : xs = [] := List.eq_nil_of_length_eq_zero h.1
    subst hxs
    obtain ⟨v', w', hr, h2, h3, -, h5⟩ := run_append_own_at (P := P) w base t ty e i z 1 bytes ht hi hz hsize hby hzs (by decide) (.slice none 0 0) 0 [] (World.ownsRow_nil _ _ _ _) a 1 c [u] rfl hnews hone hmx hbb hbase
    exact ⟨v', w', hr, OwnOff.of h2, h3, h5.imp id fun h q hq => by rw [h] at hq; cases hq; exact Nat.le_refl _⟩
  · by_cases hr : n + 1 ≤ cap
    · have hlt : o + n < cur.size := by omega
      have hfz : w.frozen? ⟨g, o + n, none⟩ = false := frozen_of hg (o + n)
      have hrun := run_append_room_cells (P := P) w t ty e i ht hi g o n cap a 1 c [u] (by rw [hsize]; rfl) hnews hone hr (fun j hj => by
        have hj0 : j = 0 := by simpa using hj
        subst hj0
        rw [hsize, Nat.mul_one, Nat.add_zero, cell_of hg, Array.getElem?_eq_getElem hlt]
        rfl) (fun j hj => by
        have hj0 : j = 0 := by simpa using hj
        subst hj0
        rw [hsize, Nat.mul_one, Nat.add_zero]
        exact hfz)
      rw [hsize, Nat.mul_one] at hrun
      refine ⟨_, _, hrun, ⟨by rw [List.length_append, h.1]; rfl, .inr ⟨g, o, cap, cur.setIfInBounds (o + n) u, rfl, hb, heap_setCell_same w g (o + n) cur e u hg, hr, hcm, by simpa using hcs, ?_⟩⟩, grown_setCell' w g (o + n) u, .inl rfl⟩
      rw [Array.toList_setIfInBounds]
      have hd : (cur.toList.set (o + n) u).drop o = (cur.toList.drop o).set n u := by rw [List.drop_set, if_neg (by omega)]; congr 1; omega
      have hln : n < (cur.toList.drop o).length := by simp; omega
      rw [hd, List.take_add_one, List.getElem?_set_self hln, List.take_set_of_le (Nat.le_refl _), htake]
      rfl
    · have hrd := (OwnOff.rd h)
      obtain ⟨v', w', hrun, r1, r2⟩ := run_append_arg_grows (P := P) w t ty e i z 1 bytes ht hi hz hsize hby hzs (by decide) ⟨g, o, none⟩ n cap xs (by simpa using h.1) (fun j x hj => by
        rw [Addr.add_lit, cell_of hg]
        have hj' : j < n := by rw [← h.1]; exact (List.getElem?_eq_some_iff.1 hj).1
        rw [← htake, List.getElem?_take_of_lt hj', List.getElem?_drop] at hj
        simpa using hj) a 1 c [u] rfl hnews (by omega) hmx hbb
      have hown : w'.ownsRow base e 1 v' (n + 1) (xs ++ [u]) := ⟨r1.1, r1.2.imp id fun ⟨g, cap, cur, h1, h2, h3⟩ => ⟨g, cap, cur, h1, Nat.le_trans hbase h2, h3⟩⟩
      refine ⟨v', w', hrun, OwnOff.of hown, ⟨r2.os, r2.tape, r2.output, r2.size, fun k hk _ => r2.block k hk (by simp)⟩, .inr fun q hq => (r1.lt q hq).1⟩

/-- A row, and what is in it. -/
structure Rw where
  off : Bool
  ty : TypeId
  size : Nat
  v : Value
  n : Nat
  xs : List Value

def RowAt (w : World) (base : Nat) (r : Rw) : Prop := if r.off then OwnOff w base r.ty r.v r.n r.xs else w.ownsRow base r.ty r.size r.v r.n r.xs

theorem RowAt.keep {w w' : World} {base : Nat} {r : Rw} (h : RowAt w base r) (hk : ∀ q, r.v.ownBlock = some q → w'.heap[q]? = w.heap[q]?) : RowAt w' base r := by
  unfold RowAt at h ⊢
  split at h
  · rename_i ho; rw [if_pos ho]; exact h.keep hk
  · rename_i ho; rw [if_neg ho]; exact own_keepAt h hk
theorem RowAt.lt {w : World} {base : Nat} {r : Rw} (h : RowAt w base r) {q : Nat} (hq : r.v.ownBlock = some q) : base ≤ q ∧ q < w.heap.size := by
  unfold RowAt at h
  split at h
  · exact h.lt hq
  · exact h.lt q hq

/-- All rows, each with its owner. -/
structure RowsAt (base : Nat) (w : World) (lab : Nat → Option Lb) (R : Lb → Option Rw) : Prop where
  row : ∀ L r, R L = some r → RowAt w base r ∧ ∀ q, r.v.ownBlock = some q → lab q = some L
  lt : ∀ q L, lab q = some L → base ≤ q ∧ q < w.heap.size

/-- What makes memory alone keeps all. -/
theorem RowsAt.on {base : Nat} {w w' : World} {lab : Nat → Option Lb} {R : Lb → Option Rw} (h : RowsAt base w lab R) (hb : Below w.heap.size w w') : RowsAt base w' lab R where
  row := fun L r hr => ⟨(h.row L r hr).1.keep fun q hq => hb.block q ((h.row L r hr).1.lt hq).2, (h.row L r hr).2⟩
  lt := fun q L hq => ⟨(h.lt q L hq).1, Nat.lt_of_lt_of_le (h.lt q L hq).2 hb.size⟩

/-- A label for new memory. -/
def labNew (lab : Nat → Option Lb) (H : Nat) (v : Value) (L : Lb) : Nat → Option Lb := fun q => if H ≤ q ∧ v.ownBlock = some q then some L else lab q

/-- One row turns. -/
theorem RowsAt.set {base : Nat} {w w' : World} {lab : Nat → Option Lb} {R : Lb → Option Rw} (h : RowsAt base w lab R) {L : Lb} {row : Option Nat} {r' : Rw} (hg : w.grownBy w' row) (hrow : ∀ q, row = some q → lab q = some L ∨ w.heap.size ≤ q) (hr : RowAt w' base r')
    (hb : ∀ q, r'.v.ownBlock = some q → lab q = some L ∨ w.heap.size ≤ q) : RowsAt base w' (labNew lab w.heap.size r'.v L) (fun L' => if L' = L then some r' else R L') where
  row := fun L' r hL => by
    by_cases e : L' = L
    · rw [if_pos e] at hL
      cases hL
      subst e
      refine ⟨hr, fun q hq => ?_⟩
      unfold labNew
      split
      · rfl
      · rename_i hn
        rcases hb q hq with h1 | h1
        · exact h1
        · exact absurd ⟨h1, hq⟩ hn
    · rw [if_neg e] at hL
      obtain ⟨h1, h2⟩ := h.row L' r hL
      refine ⟨h1.keep fun q hq => hg.block q (h1.lt hq).2 fun he => ?_, fun q hq => ?_⟩
      · rcases hrow q he.symm with h3 | h3
        · rw [h2 q hq] at h3
          cases h3
          exact e rfl
        · have := (h1.lt hq).2; omega
      · unfold labNew
        rw [if_neg (fun hc => by have := (h1.lt hq).2; omega)]
        exact h2 q hq
  lt := fun q L' hq => by
    unfold labNew at hq
    split at hq
    · rename_i hc
      exact hr.lt hc.2
    · exact ⟨(h.lt q L' hq).1, Nat.lt_of_lt_of_le (h.lt q L' hq).2 hg.size⟩

/-- Another block keeps its label. -/
theorem labNew_old {lab : Nat → Option Lb} {H q : Nat} {v : Value} {L : Lb} (hq : q < H) : labNew lab H v L q = lab q := if_neg (fun hc => by omega)

end Go.Proofs.YtclgmikdjcjjdaaGreatDoor

namespace Go.Proofs.YtclgmikdjcjjdaaGreatDoor
open Go.RowKit

/-- A subscription, with its queue as a list. -/
structure Rs where
  topic : Nat
  rank : Nat
  cap : Nat
  queue : List Nat
  got : Nat
  lost : Nat

/-- A blackboard on which records are pushed into lists. -/
structure Rb where
  tp : List Tp
  tasks : Nat
  al : Nat → List (List Int)
  mine : Nat → Nat → Bool
  subs : Nat → List Rs
  st : Rg

def rsOf (S : Bd) (s : Sb) : Rs := ⟨s.topic, s.rank, s.cu.cap, qS s (S.gen s.topic), s.cu.got, (seeS s.cu (S.gen s.topic)).lost⟩
def rbOf (S : Bd) (AL : Nat → List (List Int)) : Rb := ⟨S.tp, S.tasks, AL, fun k t => (S.own t).testBit k, fun k => (S.subs.getD k []).map (rsOf S), S.st⟩

/-- What is published is pushed. -/
def pushR (t g : Nat) (r : Rs) : Rs := if r.topic = t then { r with queue := (if r.queue.length = r.cap then r.queue.tail else r.queue) ++ [g], lost := if r.queue.length = r.cap then r.lost + 1 else r.lost } else r

theorem gen_set {S : Bd} {t g : Nat} (ht : t < S.gens.length) (t' : Nat) : ({ S with gens := S.gens.set t g } : Bd).gen t' = if t' = t then g else S.gen t' := by
  unfold Bd.gen
  simp only [List.getD_eq_getElem?_getD, List.getElem?_set]
  by_cases e : t' = t
  · subst e; rw [if_pos rfl, if_pos rfl, if_pos ht]; rfl
  · rw [if_neg e, if_neg (Ne.symm e)]

theorem getD_mem {α : Type} {l : List (List α)} {k : Nat} {x : α} (h : x ∈ l.getD k []) : l.getD k [] ∈ l := by
  rw [List.getD_eq_getElem?_getD] at h ⊢
  cases hk : l[k]? with
  | none => rw [hk] at h; simp at h
  | some y => exact List.mem_of_getElem? hk

theorem rb_pub {S : Bd} {AL : Nat → List (List Int)} (hf : Fits S) {t : Nat} (ht : t < S.gens.length) (ws : List Int) (f : Nat → Nat → Option (List Int)) :
    rbOf { S with gens := S.gens.set t (S.gen t + 1), recs := f } (fun t' => if t' = t then AL t ++ [ws] else AL t') =
      { rbOf S AL with al := fun t' => if t' = t then AL t ++ [ws] else AL t', subs := fun k => ((rbOf S AL).subs k).map (pushR t (S.gen t + 1)) } := by
  unfold rbOf
  simp only [Rb.mk.injEq, true_and, and_true]
  funext k
  rw [List.map_map]
  refine List.map_congr_left fun s hs => ?_
  obtain ⟨h1, h2, h3, h4⟩ := hf _ (getD_mem hs) s hs
  have hg := gen_set (S := S) (g := S.gen t + 1) ht s.topic
  have hg' : ({ S with gens := S.gens.set t (S.gen t + 1), recs := f } : Bd).gen s.topic = if s.topic = t then S.gen t + 1 else S.gen s.topic := hg
  unfold rsOf pushR
  rw [hg']
  simp only [Function.comp_apply]
  by_cases e : s.topic = t
  · obtain ⟨q1, q2⟩ := q_step s (S.gen s.topic) h3 h2
    rw [if_pos e, if_pos e, ← e, q1, q2]
  · rw [if_neg e, if_neg e]

theorem rb_sub {S : Bd} {AL : Nat → List (List Int)} {k : Nat} (hk : k < S.subs.length) (t rank cap : Nat) :
    rbOf { S with subs := S.subs.set k (S.subs.getD k [] ++ [⟨t, rank, ⟨S.gen t + 1, cap, 0, 0⟩⟩]) } AL = { rbOf S AL with subs := fun k' => if k' = k then (rbOf S AL).subs k ++ [⟨t, rank, cap, [], 0, 0⟩] else (rbOf S AL).subs k' } := by
  unfold rbOf
  simp only [Rb.mk.injEq, true_and, and_true]
  funext k'
  have hrs : ∀ s, rsOf { S with subs := S.subs.set k (S.subs.getD k [] ++ [⟨t, rank, ⟨S.gen t + 1, cap, 0, 0⟩⟩]) } s = rsOf S s := fun s => rfl
  by_cases e : k' = k
  · subst e
    rw [if_pos rfl]
    simp only [List.getD_eq_getElem?_getD, List.getElem?_set_self hk, Option.getD_some, List.map_append, List.map_cons, List.map_nil]
    congr 1
    have hq : seeS ⟨S.gen t + 1, cap, 0, 0⟩ (S.gen t) = ⟨S.gen t + 1, cap, 0, 0⟩ := by unfold seeS; rw [if_pos (by simp)]
    have h9 : rsOf S ⟨t, rank, ⟨S.gen t + 1, cap, 0, 0⟩⟩ = ⟨t, rank, cap, [], 0, 0⟩ := by
      unfold rsOf qS
      simp only
      rw [hq]
      simp
    rw [← h9]
    rfl
  · rw [if_neg e]
    simp only [List.getD_eq_getElem?_getD, List.getElem?_set_ne (Ne.symm e)]
    rfl

/-- Subscriptions that have looked are the same. -/
theorem rs_seen (S : Bd) (s : Sb) : rsOf S { s with cu := seeS s.cu (S.gen s.topic) } = rsOf S s := by
  unfold rsOf
  simp only [q_seen, see_idem, seeS_cap, seeS_got]

theorem rb_seen {S : Bd} {AL : Nat → List (List Int)} {k : Nat} (hk : k < S.subs.length) : rbOf { S with subs := S.subs.set k (S.seen (S.subs.getD k [])) } AL = rbOf S AL := by
  unfold rbOf
  simp only [Rb.mk.injEq, true_and, and_true]
  funext k'
  by_cases e : k' = k
  · subst e
    simp only [List.getD_eq_getElem?_getD, List.getElem?_set_self hk, Option.getD_some]
    unfold Bd.seen
    rw [List.map_map]
    refine List.map_congr_left fun s _ => ?_
    exact rs_seen S s
  · simp only [List.getD_eq_getElem?_getD, List.getElem?_set_ne (Ne.symm e)]
    rfl

/-- The first of a queue is taken. -/
def takeR (r : Rs) : Rs := { r with queue := r.queue.tail, got := r.got + 1 }

theorem rs_take {S : Bd} {s : Sb} (h : s.cu.next ≤ S.gen s.topic + 1) (hc : 1 ≤ s.cu.cap) (hn : (seeS s.cu (S.gen s.topic)).next ≤ S.gen s.topic) :
    rsOf S { s with cu := takeS s.cu (S.gen s.topic) } = takeR (rsOf S s) := by
  unfold rsOf takeR
  simp only
  rw [q_take s _ h hc hn, List.tail_cons, see_take s.cu _ h hc]
  unfold takeS
  simp only [seeS_cap, seeS_got]

theorem take_seen (c : Cu) (g : Nat) : takeS (seeS c g) g = takeS c g := by unfold takeS; rw [see_idem]

theorem rb_take {S : Bd} {AL : Nat → List (List Int)} {k i : Nat} {s : Sb} (hk : k < S.subs.length) (hs : (S.subs.getD k [])[i]? = some s) (h : s.cu.next ≤ S.gen s.topic + 1) (hc : 1 ≤ s.cu.cap) (hn : (seeS s.cu (S.gen s.topic)).next ≤ S.gen s.topic) :
    rbOf { S with subs := S.subs.set k ((S.seen (S.subs.getD k [])).set i { s with cu := takeS s.cu (S.gen s.topic) }) } AL = { rbOf S AL with subs := fun k' => if k' = k then ((rbOf S AL).subs k).set i (takeR (rsOf S s)) else (rbOf S AL).subs k' } := by
  unfold rbOf
  simp only [Rb.mk.injEq, true_and, and_true]
  funext k'
  by_cases e : k' = k
  · subst e
    rw [if_pos rfl]
    simp only [List.getD_eq_getElem?_getD, List.getElem?_set_self hk, Option.getD_some]
    rw [List.map_set]
    congr 1
    · unfold Bd.seen
      rw [List.map_map]
      refine List.map_congr_left fun s _ => ?_
      exact rs_seen S s
    · exact rs_take h hc hn
  · rw [if_neg e]
    simp only [List.getD_eq_getElem?_getD, List.getElem?_set_ne (Ne.symm e)]
    rfl

/-- The first one of the greatest rank that has something queued, of the first so many. -/
def bestR (l : List Rs) : Nat → Option Nat
  | 0 => none
  | k + 1 => match l[k]? with
    | none => bestR l k
    | some r => if r.queue = [] then bestR l k else match bestR l k with
      | none => some k
      | some j => match l[j]? with
        | some b => if r.rank ≤ b.rank then some j else some k
        | none => some k

theorem best_pick (S : Bd) (l : List Sb) (h : ∀ s ∈ l, s.cu.next ≤ S.gen s.topic + 1 ∧ 1 ≤ s.cu.cap) : ∀ k, pickS (S.seen l) ((S.seen l).map fun s => S.gen s.topic) k = bestR (l.map (rsOf S)) k
  | 0 => rfl
  | k + 1 => by
    have ih := best_pick S l h k
    unfold pickS bestR
    rw [ih]
    unfold Bd.seen
    rw [List.map_map, List.getElem?_map, List.getElem?_map, List.getElem?_map]
    cases hk : l[k]? with
    | none => rfl
    | some s =>
      obtain ⟨h1, h2⟩ := h s (List.mem_of_getElem? hk)
      simp only [Option.map_some, Function.comp_apply, see_idem]
      have hq : (rsOf S s).queue = [] ↔ S.gen s.topic < (seeS s.cu (S.gen s.topic)).next := by
        have hl : (rsOf S s).queue.length = S.gen s.topic + 1 - (seeS s.cu (S.gen s.topic)).next := q_len s _
        rw [← List.length_eq_zero_iff, hl]
        omega
      by_cases hg : S.gen s.topic < (seeS s.cu (S.gen s.topic)).next
      · rw [if_pos hg, if_pos (hq.2 hg)]
      · rw [if_neg hg, if_neg (fun h => hg (hq.1 h))]
        cases bestR (l.map (rsOf S)) k with
        | none => rfl
        | some j =>
          simp only [List.getElem?_map]
          cases l[j]? with
          | none => rfl
          | some b => rfl

end Go.Proofs.YtclgmikdjcjjdaaGreatDoor

namespace Go.Proofs.YtclgmikdjcjjdaaGreatDoor
open Go.RowKit

/-- The blocks and values of the document's blackboard. -/
structure RMem where
  bb : Nat
  tries : Int
  log : Int
  tv : Value
  recs : Value
  recT : Nat → Value
  word : Nat → Nat → Value
  mine : Value
  mineT : Nat → Value
  subs : Value
  subsT : Nat → Value
  q : Nat → Nat → Value

abbrev rsL (r : Rs) (v : Value) : List Value := [.int .i64 r.topic, .int .i64 r.rank, .int .i64 r.cap, v, .int .u64 r.got, .int .u64 r.lost]
/-- The cells of subscriptions, the first one being the i-th. -/
def flatRs (f : Nat → Value) : Nat → List Rs → List Value
  | _, [] => []
  | i, r :: l => rsL r (f i) ++ flatRs f (i + 1) l

theorem flatRs_len (f : Nat → Value) : ∀ (l : List Rs) (i : Nat), (flatRs f i l).length = l.length * 6
  | [], i => rfl
  | r :: l, i => by simp [flatRs, flatRs_len f l (i + 1)]; omega

theorem flatRs_at (f : Nat → Value) : ∀ (l : List Rs) (i k : Nat) (r : Rs), l[k]? = some r → ∀ j u, (rsL r (f (i + k)))[j]? = some u → (flatRs f i l)[k * 6 + j]? = some u
  | [], i, k, r, h, j, u, hu => by simp at h
  | x :: l, i, 0, r, h, j, u, hu => by
    simp at h
    subst h
    have hj : j < 6 := (List.getElem?_eq_some_iff.1 hu).1
    rw [flatRs, List.getElem?_append_left (by simp; omega), Nat.zero_mul, Nat.zero_add]
    exact hu
  | x :: l, i, k + 1, r, h, j, u, hu => by
    simp at h
    rw [flatRs, List.getElem?_append_right (by simp; omega)]
    have := flatRs_at f l (i + 1) k r h j u (by rw [show i + 1 + k = i + (k + 1) by omega]; exact hu)
    rw [← this]
    congr 1
    simp
    omega

theorem flatRs_congr {f g : Nat → Value} : ∀ (l : List Rs) (i : Nat), (∀ j, j < l.length → f (i + j) = g (i + j)) → flatRs f i l = flatRs g i l
  | [], i, h => rfl
  | r :: l, i, h => by
    have h0 := h 0 (by simp)
    rw [Nat.add_zero] at h0
    show rsL r (f i) ++ flatRs f (i + 1) l = rsL r (g i) ++ flatRs g (i + 1) l
    rw [h0, flatRs_congr (f := f) (g := g) l (i + 1) fun j hj => by rw [show i + 1 + j = i + (j + 1) by omega]; exact h (j + 1) (by simpa using hj)]

theorem flatRs_snoc (f : Nat → Value) (r : Rs) : ∀ (l : List Rs) (i : Nat), flatRs f i (l ++ [r]) = flatRs f i l ++ rsL r (f (i + l.length))
  | [], i => by simp [flatRs]
  | x :: l, i => by
    rw [List.cons_append, flatRs, flatRs_snoc f r l (i + 1), flatRs, List.append_assoc, List.length_cons, show i + 1 + l.length = i + (l.length + 1) by omega]

/-- All rows of a blackboard of lists. -/
def refR (m : RMem) (X : Rb) : Lb → Option Rw
  | .board => none
  | .recs => some ⟨false, 65, 1, m.recs, X.tp.length, (List.range X.tp.length).map m.recT⟩
  | .rec_ t => if t < X.tp.length then some ⟨false, 39, 1, m.recT t, (X.al t).length, (List.range (X.al t).length).map (m.word t)⟩ else none
  | .word t g => if t < X.tp.length ∧ g < (X.al t).length then some ⟨false, 36, 1, m.word t g, ((X.al t).getD g []).length, u64V ((X.al t).getD g [])⟩ else none
  | .mine => some ⟨false, 80, 1, m.mine, X.tasks, (List.range X.tasks).map m.mineT⟩
  | .mineT k => if k < X.tasks then some ⟨false, 4, 1, m.mineT k, X.tp.length, (List.range X.tp.length).map fun t => .bool (X.mine k t)⟩ else none
  | .subs => some ⟨false, 57, 1, m.subs, X.tasks, (List.range X.tasks).map m.subsT⟩
  | .subsT k => if k < X.tasks then some ⟨false, 87, 6, m.subsT k, (X.subs k).length, flatRs (m.q k) 0 (X.subs k)⟩ else none
  | .q k i => if k < X.tasks then (X.subs k)[i]?.map fun r => ⟨true, 36, 1, m.q k i, r.queue.length, natL r.queue⟩ else none

abbrev rbO (m : RMem) (X : Rb) : Obj := .cells #[.int .i64 X.tasks, m.tv, .int .i64 m.tries, .int .i64 m.log, m.recs, m.mine, m.subs,
  .int .i64 X.st.mode, .int .i64 X.st.source, .bool X.st.hold, .int .i64 X.st.flags, .int .u64 X.st.epoch] 53

structure IsRef (base : Nat) (w : World) (lab : Nat → Option Lb) (m : RMem) (X : Rb) : Prop where
  blk : w.heap[m.bb]? = some (rbO m X)
  lbb : lab m.bb = some .board
  rows : RowsAt base w lab (refR m X)
  topics : Rd w m.tv 3 X.tp.length (flatT X.tp)
  tvb : ∀ q, m.tv.ownBlock = some q → lab q = none ∧ q < w.heap.size

/-- What a call of the document's blackboard may turn. -/
structure RTurns (w w' : World) (lab lab' : Nat → Option Lb) : Prop where
  os : w'.os = w.os
  tape : w'.tape = w.tape
  output : w'.output = w.output
  size : w.heap.size ≤ w'.heap.size
  block : ∀ i, i < w.heap.size → lab i = none → w'.heap[i]? = w.heap[i]?
  lab : ∀ i L, lab' i = some L → lab i = some L ∨ w.heap.size ≤ i

theorem RTurns.of_below {w w' : World} (lab : Nat → Option Lb) (h : Below w.heap.size w w') : RTurns w w' lab lab := ⟨h.os, h.tape, h.output, h.size, fun i hi _ => h.block i hi, fun _ _ h => .inl h⟩
theorem RTurns.trans {w1 w2 w3 : World} {l1 l2 l3 : Nat → Option Lb} (h : RTurns w1 w2 l1 l2) (h' : RTurns w2 w3 l2 l3) : RTurns w1 w3 l1 l3 where
  os := h'.os.trans h.os
  tape := h'.tape.trans h.tape
  output := h'.output.trans h.output
  size := Nat.le_trans h.size h'.size
  block := fun i hi hn => (h'.block i (Nat.lt_of_lt_of_le hi h.size) (by
    cases hl : l2 i with
    | none => rfl
    | some L => rcases h.lab i L hl with h1 | h1
                · rw [hn] at h1; cases h1
                · omega)).trans (h.block i hi hn)
  lab := fun i L hL => (h'.lab i L hL).elim (h.lab i L) fun hge => .inr (Nat.le_trans h.size hge)

theorem IsRef.below {base : Nat} {w w' : World} {lab : Nat → Option Lb} {m : RMem} {X : Rb} (h : IsRef base w lab m X) (hb : Below w.heap.size w w') : IsRef base w' lab m X where
  blk := (hb.block _ (block_lt h.blk)).trans h.blk
  lbb := h.lbb
  rows := h.rows.on hb
  topics := h.topics.keepAt hb.size fun q hq => hb.block q (h.tvb q hq).2
  tvb := fun q hq => ⟨(h.tvb q hq).1, Nat.lt_of_lt_of_le (h.tvb q hq).2 hb.size⟩

/-- What is labelled alone may turn nothing, if all that is labelled stands. -/
theorem IsRef.frame {base : Nat} {w w' : World} {lab : Nat → Option Lb} {m : RMem} {X : Rb} (h : IsRef base w lab m X) (hs : w.heap.size ≤ w'.heap.size) (hk : ∀ i, i < w.heap.size → (lab i ≠ none ∨ m.tv.ownBlock = some i) → w'.heap[i]? = w.heap[i]?) : IsRef base w' lab m X where
  blk := (hk _ (block_lt h.blk) (.inl (by rw [h.lbb]; simp))).trans h.blk
  lbb := h.lbb
  rows := ⟨fun L r hr => ⟨(h.rows.row L r hr).1.keep fun q hq => hk q ((h.rows.row L r hr).1.lt hq).2 (.inl (by rw [(h.rows.row L r hr).2 q hq]; simp)), (h.rows.row L r hr).2⟩, fun q L hq => ⟨(h.rows.lt q L hq).1, Nat.lt_of_lt_of_le (h.rows.lt q L hq).2 hs⟩⟩
  topics := h.topics.keepAt hs fun q hq => hk q (h.tvb q hq).2 (.inr hq)
  tvb := fun q hq => ⟨(h.tvb q hq).1, Nat.lt_of_lt_of_le (h.tvb q hq).2 hs⟩

theorem RowAt.rd {w : World} {base : Nat} {r : Rw} (h : RowAt w base r) (h1 : r.off = true → r.size = 1) : Rd w r.v r.size r.n r.xs := by
  unfold RowAt at h
  split at h
  · rename_i ho; rw [h1 ho]; exact h.rd
  · exact Rd.of_own h

variable {base : Nat} {w : World} {lab : Nat → Option Lb} {m : RMem} {X : Rb}

theorem IsRef.rdRecs (h : IsRef base w lab m X) : Rd w m.recs 1 X.tp.length ((List.range X.tp.length).map m.recT) := (h.rows.row .recs _ rfl).1.rd (fun h => by cases h)
theorem IsRef.rdRec (h : IsRef base w lab m X) {t : Nat} (ht : t < X.tp.length) : Rd w (m.recT t) 1 (X.al t).length ((List.range (X.al t).length).map (m.word t)) :=
  (h.rows.row (.rec_ t) ⟨false, 39, 1, m.recT t, (X.al t).length, (List.range (X.al t).length).map (m.word t)⟩ (by simp [refR, ht])).1.rd (fun h => by cases h)
theorem IsRef.rdWord (h : IsRef base w lab m X) {t g : Nat} (ht : t < X.tp.length) (hg : g < (X.al t).length) : Rd w (m.word t g) 1 ((X.al t).getD g []).length (u64V ((X.al t).getD g [])) :=
  (h.rows.row (.word t g) ⟨false, 36, 1, m.word t g, ((X.al t).getD g []).length, u64V ((X.al t).getD g [])⟩ (by simp [refR, ht, hg])).1.rd (fun h => by cases h)
theorem IsRef.rdMine (h : IsRef base w lab m X) : Rd w m.mine 1 X.tasks ((List.range X.tasks).map m.mineT) := (h.rows.row .mine _ rfl).1.rd (fun h => by cases h)
theorem IsRef.rdMineT (h : IsRef base w lab m X) {k : Nat} (hk : k < X.tasks) : Rd w (m.mineT k) 1 X.tp.length ((List.range X.tp.length).map fun t => .bool (X.mine k t)) :=
  (h.rows.row (.mineT k) ⟨false, 4, 1, m.mineT k, X.tp.length, (List.range X.tp.length).map fun t => .bool (X.mine k t)⟩ (by simp [refR, hk])).1.rd (fun h => by cases h)
theorem IsRef.rdSubs (h : IsRef base w lab m X) : Rd w m.subs 1 X.tasks ((List.range X.tasks).map m.subsT) := (h.rows.row .subs _ rfl).1.rd (fun h => by cases h)
theorem IsRef.rdSubsT (h : IsRef base w lab m X) {k : Nat} (hk : k < X.tasks) : Rd w (m.subsT k) 6 (X.subs k).length (flatRs (m.q k) 0 (X.subs k)) :=
  (h.rows.row (.subsT k) ⟨false, 87, 6, m.subsT k, (X.subs k).length, flatRs (m.q k) 0 (X.subs k)⟩ (by simp [refR, hk])).1.rd (fun h => by cases h)
theorem IsRef.ownQ (h : IsRef base w lab m X) {k i : Nat} {r : Rs} (hk : k < X.tasks) (hr : (X.subs k)[i]? = some r) : OwnOff w base 36 (m.q k i) r.queue.length (natL r.queue) := by
  have := (h.rows.row (.q k i) ⟨true, 36, 1, m.q k i, r.queue.length, natL r.queue⟩ (by simp [refR, hk, hr])).1
  unfold RowAt at this
  rw [if_pos rfl] at this
  exact this
theorem range_at {n t : Nat} (ht : t < n) (f : Nat → Value) : ((List.range n).map f)[t]? = some (f t) := by simp [ht]

end Go.Proofs.YtclgmikdjcjjdaaGreatDoor
