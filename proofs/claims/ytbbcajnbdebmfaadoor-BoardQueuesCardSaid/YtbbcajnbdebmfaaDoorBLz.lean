/-
  Lrs of a law's own in memory, that are appended to and written: none touches another. Conditions: none. What the law BoardQueues keeps in memory, beside its blackboard. Conditions: none. The records at the law BoardQueues' beginning: being laid. Conditions: none.
-/
import Derived.Test.YtbbcajnbdebmfaaDoorBQueuesP
import Derived.Test.YtbbcajnbdebmfaaDoorBClone
namespace Go.Proofs.YtbbcajnbdebmfaaDoor
open Go.RowKit

/-- A row of the law's own: its value, its elements' type, its elements. -/
structure Ent where
  v : Value
  e : TypeId
  xs : List Value

structure Lrs (w : World) (R : Nat) (es : List Ent) : Prop where
  own : ∀ (i : Nat) (a : Ent), es[i]? = some a → w.ownsRow 0 a.e 1 a.v a.xs.length a.xs
  dis : ∀ (i j : Nat) (a b : Ent), es[i]? = some a → es[j]? = some b → i ≠ j → ∀ q, a.v.ownBlock = some q → b.v.ownBlock ≠ some q
  nR : ∀ (i : Nat) (a : Ent), es[i]? = some a → a.v.ownBlock ≠ some R
  ltR : R < w.heap.size

/-- What the law writes. -/
def ROwn (R : Nat) (es : List Ent) (i : Nat) : Prop := i = R ∨ ∃ a ∈ es, a.v.ownBlock = some i

section
variable {w w' : World} {R : Nat} {es : List Ent}

theorem Lrs.lt (h : Lrs w R es) {i : Nat} (hi : ROwn R es i) : i < w.heap.size := by
  rcases hi with rfl | ⟨a, ha, hq⟩
  · exact h.ltR
  · obtain ⟨j, hj⟩ := List.mem_iff_getElem?.1 ha
    exact ((h.own j a hj).lt i hq).2

theorem Lrs.keep (h : Lrs w R es) (hs : w.heap.size ≤ w'.heap.size) (hk : ∀ i, ROwn R es i → w'.heap[i]? = w.heap[i]?) : Lrs w' R es where
  own := fun i a ha => own_keepAt (h.own i a ha) (fun q hq => hk q (.inr ⟨a, List.mem_of_getElem? ha, hq⟩))
  dis := h.dis
  nR := h.nR
  ltR := Nat.lt_of_lt_of_le h.ltR hs

theorem Lrs.below (h : Lrs w R es) (hb : Below w.heap.size w w') : Lrs w' R es := h.keep hb.size fun i hi => hb.block i (h.lt hi)

theorem set_get {es : List Ent} {i : Nat} {b : Ent} {j : Nat} {a : Ent} (h : (es.set i b)[j]? = some a) : (i = j ∧ a = b ∧ i < es.length) ∨ (i ≠ j ∧ es[j]? = some a) := by
  by_cases hij : i = j
  · subst hij
    have hl : i < es.length := by have := (List.getElem?_eq_some_iff.1 h).1; simpa using this
    rw [List.getElem?_set_self hl] at h
    exact .inl ⟨rfl, (Option.some.inj h).symm, hl⟩
  · rw [List.getElem?_set_ne hij] at h
    exact .inr ⟨hij, h⟩

/-- One row is turned into another one: at its old place in memory, or behind all that was there. -/
theorem Lrs.turn (h : Lrs w R es) {i : Nat} {a b : Ent} (ha : es[i]? = some a) (hs : w.heap.size ≤ w'.heap.size) (hk : ∀ q, q < w.heap.size → a.v.ownBlock ≠ some q → w'.heap[q]? = w.heap[q]?)
    (hb : w'.ownsRow 0 b.e 1 b.v b.xs.length b.xs) (hl : ∀ q, b.v.ownBlock = some q → a.v.ownBlock = some q ∨ w.heap.size ≤ q) : Lrs w' R (es.set i b) where
  own := fun j c hc => by
    rcases set_get hc with ⟨rfl, rfl, -⟩ | ⟨hij, hc'⟩
    · exact hb
    · exact own_keepAt (h.own j c hc') (fun q hq => hk q ((h.own j c hc').lt q hq).2 (h.dis j i c a hc' ha (Ne.symm hij) q hq))
  dis := fun j l c d hc hd hjl q hqc hqd => by
    rcases set_get hc with ⟨rfl, rfl, -⟩ | ⟨hij, hc'⟩
    · rcases set_get hd with ⟨h1, -, -⟩ | ⟨hil, hd'⟩
      · exact hjl h1
      · rcases hl q hqc with h1 | h1
        · exact h.dis i l a d ha hd' hil q h1 hqd
        · have := ((h.own l d hd').lt q hqd).2; omega
    · rcases set_get hd with ⟨rfl, rfl, -⟩ | ⟨hil, hd'⟩
      · rcases hl q hqd with h1 | h1
        · exact h.dis j i c a hc' ha (Ne.symm hij) q hqc h1
        · have := ((h.own j c hc').lt q hqc).2; omega
      · exact h.dis j l c d hc' hd' hjl q hqc hqd
  nR := fun j c hc hq => by
    rcases set_get hc with ⟨rfl, rfl, -⟩ | ⟨hij, hc'⟩
    · rcases hl R hq with h1 | h1
      · exact h.nR i a ha h1
      · have := h.ltR; omega
    · exact h.nR j c hc' hq
  ltR := Nat.lt_of_lt_of_le h.ltR hs

/-- An element more, by 'append'. -/
theorem Lrs.append (h : Lrs w R es) {i : Nat} {a : Ent} (ha : es[i]? = some a) {g cap : Nat} {news : List Value} {n : Nat} (hn : n = a.xs.length + news.length)
    (hown : w'.ownsRow 0 a.e 1 (.slice (some ⟨g, 0, none⟩) n cap) n (a.xs ++ news)) (hg : w.grownBy w' a.v.ownBlock) (hat : a.v.ownBlock = some g ∨ w.heap.size ≤ g) :
    Lrs w' R (es.set i ⟨.slice (some ⟨g, 0, none⟩) n cap, a.e, a.xs ++ news⟩) := by
  refine h.turn ha hg.size (fun q hq hne => hg.block q hq (fun e => hne e.symm)) ?_ (fun q hq => ?_)
  · simp only [List.length_append]
    rw [← hn]
    exact hown
  · cases hq
    exact hat

/-- An element that is written over. -/
theorem Lrs.store (h : Lrs w R es) {i : Nat} {a : Ent} (ha : es[i]? = some a) {g n cap : Nat} (hv : a.v = .slice (some ⟨g, 0, none⟩) n cap) (hn : n = a.xs.length) {q : Nat} (hq : q < n) (u : Value) :
    Lrs (w.setCell ⟨g, q, none⟩ u) R (es.set i ⟨a.v, a.e, a.xs.set q u⟩) := by
  refine h.turn ha (by simp) (fun j hj hne => Below.heap_setCell w ⟨g, q, none⟩ _ _ (fun e => hne (by rw [hv]; show some g = some j; rw [show j = g from e]))) ?_ (fun j hj => .inl hj)
  simp only [List.length_set]
  have ho := h.own i a ha
  rw [hv, ← hn] at ho ⊢
  exact own_set1 ho hq

theorem ROwn.set {i : Nat} {a b : Ent} (ha : es[i]? = some a) {s : Nat} (hl : ∀ q, b.v.ownBlock = some q → a.v.ownBlock = some q ∨ s ≤ q) {j : Nat} (hj : ROwn R (es.set i b) j) : ROwn R es j ∨ s ≤ j := by
  rcases hj with rfl | ⟨c, hc, hq⟩
  · exact .inl (.inl rfl)
  · obtain ⟨l, hl'⟩ := List.mem_iff_getElem?.1 hc
    rcases set_get hl' with ⟨-, rfl, -⟩ | ⟨-, hc'⟩
    · exact (hl j hq).imp (fun h1 => .inr ⟨a, List.mem_of_getElem? ha, h1⟩) id
    · exact .inl (.inr ⟨c, List.mem_of_getElem? hc', hq⟩)

end

end Go.Proofs.YtbbcajnbdebmfaaDoor

namespace Go.Proofs.YtbbcajnbdebmfaaDoor
open Go.RowKit

abbrev intL (l : List Nat) : List Value := l.map fun n : Nat => .int .i64 (n : Int)

/-- The records' rows are the first n entries, the five rows on subscriptions the last ones. -/
structure Ls (w0 w : World) (k : Nat) (m : Mem) (S : Bd) (R n s0 : Nat) (es : List Ent) (G : Gh) : Prop where
  play : Play w0 w k m S
  rows : Lrs w R es
  blk : w.heap[R]? = some (.cells ((es.take n).map Ent.v).toArray 39)
  elen : es.length = n + 5
  rlen : G.recs.length = n
  cell : ∀ (t : Nat) (a : Ent) (r : List (List Int)), t < n → es[t]? = some a → G.recs[t]? = some r → a.e = 36 ∧ a.xs.length = r.length ∧
    ∀ (g : Nat) (u : Value) (ws : List Int), a.xs[g]? = some u → r[g]? = some ws → Rd w u 1 ws.length (u64V ws) ∧ ∀ q, u.ownBlock = some q → q < s0 ∧ ¬ ROwn R es q ∧ ¬ m.own q
  e0 : ∃ v, es[n]? = some ⟨v, 3, intL G.topics⟩
  e1 : ∃ v, es[n + 1]? = some ⟨v, 3, intL G.ranks⟩
  e2 : ∃ v, es[n + 2]? = some ⟨v, 41, natL G.frm⟩
  e3 : ∃ v, es[n + 3]? = some ⟨v, 41, natL G.last⟩
  e4 : ∃ v, es[n + 4]? = some ⟨v, 41, natL G.took⟩
  dis : ∀ i, ROwn R es i → ¬ m.own i ∧ ¬ m.ro i
  low : ∀ i, ROwn R es i → w0.heap.size ≤ i
  s0 : s0 ≤ w.heap.size

section
variable {w0 w w' : World} {k k' : Nat} {m m' : Mem} {S S' : Bd} {R n s0 : Nat} {es : List Ent} {G : Gh}

theorem Ls.below (h : Ls w0 w k m S R n s0 es G) (hb : Below w.heap.size w w') : Ls w0 w' k m S R n s0 es G :=
  { h with
    play := h.play.on hb
    rows := h.rows.below hb
    blk := (hb.block _ h.rows.ltR).trans h.blk
    cell := fun t a r ht ha hr => by
      obtain ⟨h1, h2, h3⟩ := h.cell t a r ht ha hr
      exact ⟨h1, h2, fun g u ws hu hw => ⟨(h3 g u ws hu hw).1.below hb, (h3 g u ws hu hw).2⟩⟩
    s0 := Nat.le_trans h.s0 hb.size }

/-- Behind a call of the blackboard. -/
theorem Ls.act (h : Ls w0 w k m S R n s0 es G) (P : Play w0 w' k' m' S') (hT : Turns w w' m m') : Ls w0 w' k' m' S' R n s0 es G :=
  { h with
    play := P
    rows := h.rows.keep hT.size (fun i hi => hT.block i (h.rows.lt hi) (h.dis i hi).1)
    blk := (hT.block _ h.rows.ltR (h.dis R (.inl rfl)).1).trans h.blk
    cell := fun t a r ht ha hr => by
      obtain ⟨h1, h2, h3⟩ := h.cell t a r ht ha hr
      refine ⟨h1, h2, fun g u ws hu hw => ?_⟩
      obtain ⟨h4, h5⟩ := h3 g u ws hu hw
      exact ⟨h4.keepAt hT.size (fun q hq => hT.block q (Nat.lt_of_lt_of_le (h5 q hq).1 h.s0) (h5 q hq).2.2), fun q hq => ⟨(h5 q hq).1, (h5 q hq).2.1, fun ho => (hT.own q ho).elim (h5 q hq).2.2 (fun hge => by have := (h5 q hq).1; have := h.s0; omega)⟩⟩
    dis := fun i hi => ⟨fun ho => (hT.own i ho).elim (h.dis i hi).1 (fun hge => by have := h.rows.lt hi; omega), fun ho => (hT.ro i ho).elim (h.dis i hi).2 (fun hge => by have := h.rows.lt hi; omega)⟩
    s0 := Nat.le_trans h.s0 hT.size }

/-- A row of the last five is turned: what is kept of the blackboard and of the records stays. -/
theorem Ls.turn (h : Ls w0 w k m S R n s0 es G) {i : Nat} {a b : Ent} (hin : n ≤ i) (ha : es[i]? = some a) (hos : w'.os = w.os) (hot : w'.tape = w.tape) (hoo : w'.output = w.output) (hs : w.heap.size ≤ w'.heap.size)
    (hk : ∀ q, q < w.heap.size → a.v.ownBlock ≠ some q → w'.heap[q]? = w.heap[q]?) (hr : Lrs w' R (es.set i b)) (hl : ∀ q, b.v.ownBlock = some q → a.v.ownBlock = some q ∨ w.heap.size ≤ q) (H : Gh) (hrec : H.recs = G.recs)
    (e0 : ∃ v, (es.set i b)[n]? = some ⟨v, 3, intL H.topics⟩) (e1 : ∃ v, (es.set i b)[n + 1]? = some ⟨v, 3, intL H.ranks⟩) (e2 : ∃ v, (es.set i b)[n + 2]? = some ⟨v, 41, natL H.frm⟩)
    (e3 : ∃ v, (es.set i b)[n + 3]? = some ⟨v, 41, natL H.last⟩) (e4 : ∃ v, (es.set i b)[n + 4]? = some ⟨v, 41, natL H.took⟩) : Ls w0 w' k m S R n s0 (es.set i b) H := by
  have hkq : ∀ q, q < w.heap.size → ¬ ROwn R es q → w'.heap[q]? = w.heap[q]? := fun q hq hn => hk q hq (fun e => hn (.inr ⟨a, List.mem_of_getElem? ha, e⟩))
  have ho : ∀ q, ROwn R (es.set i b) q → ROwn R es q ∨ w.heap.size ≤ q := fun q hq => ROwn.set ha hl hq
  have hB : Below w0.heap.size w0 w' := ⟨hos.trans h.play.below.os, hot.trans h.play.below.tape, hoo.trans h.play.below.output, Nat.le_trans h.play.below.size hs, fun j hj => (hkq j (Nat.lt_of_lt_of_le hj h.play.below.size) (fun hn => by have := h.low j hn; omega)).trans (h.play.below.block j hj)⟩
  refine ⟨⟨h.play.is.frame hs (fun j hj => hkq j (h.play.is.lt j hj) (fun hn => hj.elim (h.dis j hn).1 (h.dis j hn).2)), hB, h.play.own⟩, hr, ?_, by simp [h.elen], by rw [hrec]; exact h.rlen, fun t c r ht hc hr' => ?_, e0, e1, e2, e3, e4, fun j hj => ?_, fun j hj => ?_, Nat.le_trans h.s0 hs⟩
  · rw [hk R h.rows.ltR (fun e => h.rows.nR i a ha e), h.blk, List.take_set_of_le hin]
  · rw [hrec] at hr'
    have hc' : es[t]? = some c := by
      rw [List.getElem?_set_ne (by omega)] at hc
      exact hc
    obtain ⟨h1, h2, h3⟩ := h.cell t c r ht hc' hr'
    refine ⟨h1, h2, fun g u ws hu hw => ?_⟩
    obtain ⟨h4, h5⟩ := h3 g u ws hu hw
    exact ⟨h4.keepAt hs (fun q hq => hkq q (Nat.lt_of_lt_of_le (h5 q hq).1 h.s0) (h5 q hq).2.1), fun q hq => ⟨(h5 q hq).1, fun hn => (ho q hn).elim (h5 q hq).2.1 (fun hge => by have := (h5 q hq).1; have := h.s0; omega), (h5 q hq).2.2⟩⟩
  · rcases ho j hj with h1 | h1
    · exact h.dis j h1
    · exact ⟨fun hm => by have := h.play.is.lt j (.inl hm); omega, fun hm => by have := h.play.is.lt j (.inr hm); omega⟩
  · rcases ho j hj with h1 | h1
    · exact h.low j h1
    · exact Nat.le_trans h.play.below.size h1

theorem Lrs.setR (h : Lrs w R es) (t : Nat) (u : Value) : Lrs (w.setCell ⟨R, t, none⟩ u) R es where
  own := fun i a ha => own_keepAt (h.own i a ha) (fun q hq => Below.heap_setCell w ⟨R, t, none⟩ _ _ (fun e => h.nR i a ha (by rw [hq]; exact congrArg some e)))
  dis := h.dis
  nR := h.nR
  ltR := by simpa using h.ltR

/-- A record more. -/
theorem Ls.push (h : Ls w0 w k m S R n s0 es G) {t : Nat} {a : Ent} {r : List (List Int)} (ht : t < n) (ha : es[t]? = some a) (hr : G.recs[t]? = some r) {w4 : World} {g cap N : Nat} (hN : N = a.xs.length + 1) (u : Value) (ws : List Int)
    (hu : Rd w u 1 ws.length (u64V ws)) (huq : ∀ q, u.ownBlock = some q → q < s0 ∧ ¬ ROwn R es q ∧ ¬ m.own q) (hown : w4.ownsRow 0 36 1 (.slice (some ⟨g, 0, none⟩) N cap) N (a.xs ++ [u])) (hg : w.grownBy w4 a.v.ownBlock) (hat : a.v.ownBlock = some g ∨ w.heap.size ≤ g) :
    Ls w0 (w4.setCell ⟨R, t, none⟩ (.slice (some ⟨g, 0, none⟩) N cap)) k m S R n s0 (es.set t ⟨.slice (some ⟨g, 0, none⟩) N cap, 36, a.xs ++ [u]⟩) { G with recs := G.recs.set t (r ++ [ws]) } := by
  obtain ⟨hae, hal, hac⟩ := h.cell t a r ht ha hr
  have hl : ∀ q, (Value.slice (some ⟨g, 0, none⟩) N cap).ownBlock = some q → a.v.ownBlock = some q ∨ w.heap.size ≤ q := fun q hq => by cases hq; exact hat
  have hR4 : w4.heap[R]? = w.heap[R]? := hg.block R h.rows.ltR (fun e => h.rows.nR t a ha e.symm)
  have hne : ∀ q, q ≠ R → (w4.setCell ⟨R, t, none⟩ (.slice (some ⟨g, 0, none⟩) N cap)).heap[q]? = w4.heap[q]? := fun q hq => Below.heap_setCell w4 ⟨R, t, none⟩ _ _ hq
  have hkq : ∀ q, q < w.heap.size → ¬ ROwn R es q → (w4.setCell ⟨R, t, none⟩ (.slice (some ⟨g, 0, none⟩) N cap)).heap[q]? = w.heap[q]? := fun q hq hn =>
    (hne q (fun e => hn (.inl e))).trans (hg.block q hq (fun e => hn (.inr ⟨a, List.mem_of_getElem? ha, e.symm⟩)))
  have hs : w.heap.size ≤ (w4.setCell ⟨R, t, none⟩ (.slice (some ⟨g, 0, none⟩) N cap)).heap.size := by simpa using hg.size
  have ho : ∀ q, ROwn R (es.set t ⟨.slice (some ⟨g, 0, none⟩) N cap, 36, a.xs ++ [u]⟩) q → ROwn R es q ∨ w.heap.size ≤ q := fun q hq => ROwn.set ha hl hq
  have hB : Below w0.heap.size w0 (w4.setCell ⟨R, t, none⟩ (.slice (some ⟨g, 0, none⟩) N cap)) := ⟨hg.os.trans h.play.below.os, hg.tape.trans h.play.below.tape, hg.output.trans h.play.below.output, Nat.le_trans h.play.below.size hs, fun j hj => (hkq j (Nat.lt_of_lt_of_le hj h.play.below.size) (fun hn => by have := h.low j hn; omega)).trans (h.play.below.block j hj)⟩
  have hrows : Lrs w4 R (es.set t ⟨.slice (some ⟨g, 0, none⟩) N cap, 36, a.xs ++ [u]⟩) := by
    have := h.rows.append ha (news := [u]) (n := N) (g := g) (cap := cap) (by simpa using hN) (by rw [hae]; exact hown) hg hat
    rw [hae] at this
    exact this
  have hsf : ∀ (v : Value) (xs : List Int), Rd w v 1 xs.length (u64V xs) → (∀ q, v.ownBlock = some q → q < s0 ∧ ¬ ROwn R es q ∧ ¬ m.own q) → Rd (w4.setCell ⟨R, t, none⟩ (.slice (some ⟨g, 0, none⟩) N cap)) v 1 xs.length (u64V xs) ∧
      ∀ q, v.ownBlock = some q → q < s0 ∧ ¬ ROwn R (es.set t ⟨.slice (some ⟨g, 0, none⟩) N cap, 36, a.xs ++ [u]⟩) q ∧ ¬ m.own q := fun v xs h4 h5 =>
    ⟨h4.keepAt hs (fun q hq => hkq q (Nat.lt_of_lt_of_le (h5 q hq).1 h.s0) (h5 q hq).2.1), fun q hq => ⟨(h5 q hq).1, fun hn => (ho q hn).elim (h5 q hq).2.1 (fun hge => by have := (h5 q hq).1; have := h.s0; omega), (h5 q hq).2.2⟩⟩
  refine ⟨⟨h.play.is.frame hs (fun j hj => hkq j (h.play.is.lt j hj) (fun hn => hj.elim (h.dis j hn).1 (h.dis j hn).2)), hB, h.play.own⟩, hrows.setR _ _, ?_, by simp [h.elen], by simp [h.rlen], fun t' c r' ht' hc hr' => ?_, ?_, ?_, ?_, ?_, ?_, fun j hj => ?_, fun j hj => ?_, Nat.le_trans h.s0 hs⟩
  · rw [heap_setCell_same w4 R t _ _ _ (hR4.trans h.blk)]
    congr 2
    rw [List.setIfInBounds_toArray]
    congr 1
    rw [List.take_set, List.map_set]
  · rcases set_get hc with ⟨rfl, rfl, -⟩ | ⟨hne', hc'⟩
    · have htr : t < G.recs.length := by rw [h.rlen]; exact ht
      rw [List.getElem?_set_self htr] at hr'
      cases hr'
      refine ⟨rfl, by simp [hal], fun g' u' ws' hu' hw' => ?_⟩
      simp only at hu'
      by_cases hg' : g' < a.xs.length
      · rw [List.getElem?_append_left hg'] at hu'
        rw [List.getElem?_append_left (by omega)] at hw'
        obtain ⟨h4, h5⟩ := hac g' u' ws' hu' hw'
        exact hsf u' ws' h4 h5
      · have hg2 : g' = a.xs.length := by
          have := (List.getElem?_eq_some_iff.1 hu').1
          simp at this
          omega
        subst hg2
        rw [List.getElem?_append_right (Nat.le_refl _)] at hu'
        rw [hal, List.getElem?_append_right (Nat.le_refl _)] at hw'
        simp at hu' hw'
        subst hu' hw'
        exact hsf u ws hu huq
    · rw [List.getElem?_set_ne hne'] at hr'
      obtain ⟨h1, h2, h3⟩ := h.cell t' c r' ht' hc' hr'
      exact ⟨h1, h2, fun g' u' ws' hu' hw' => hsf u' ws' (h3 g' u' ws' hu' hw').1 (h3 g' u' ws' hu' hw').2⟩
  · rw [List.getElem?_set_ne (by omega)]; exact h.e0
  · rw [List.getElem?_set_ne (by omega)]; exact h.e1
  · rw [List.getElem?_set_ne (by omega)]; exact h.e2
  · rw [List.getElem?_set_ne (by omega)]; exact h.e3
  · rw [List.getElem?_set_ne (by omega)]; exact h.e4
  · rcases ho j hj with h1 | h1
    · exact h.dis j h1
    · exact ⟨fun hm => by have := h.play.is.lt j (.inl hm); omega, fun hm => by have := h.play.is.lt j (.inr hm); omega⟩
  · rcases ho j hj with h1 | h1
    · exact h.low j h1
    · exact Nat.le_trans h.play.below.size h1

/-- An element more in the row 'topics'. -/
theorem Ls.app0 (h : Ls w0 w k m S R n s0 es G) {v : Value} (ha : es[n]? = some ⟨v, 3, intL G.topics⟩) {g cap N : Nat} (x : Nat) (hN : N = G.topics.length + 1) (hown : w'.ownsRow 0 3 1 (.slice (some ⟨g, 0, none⟩) N cap) N (intL G.topics ++ [.int .i64 x])) (hg : w.grownBy w' v.ownBlock) (hat : v.ownBlock = some g ∨ w.heap.size ≤ g) :
    Ls w0 w' k m S R n s0 (es.set (n) ⟨.slice (some ⟨g, 0, none⟩) N cap, 3, intL (G.topics ++ [x])⟩) { G with topics := G.topics ++ [x] } := by
  have hil : n < es.length := by rw [h.elen]; omega
  have e : intL (G.topics ++ [x]) = intL G.topics ++ [.int .i64 x] := by simp [intL]
  have hl : ∀ q, (Value.slice (some ⟨g, 0, none⟩) N cap).ownBlock = some q → v.ownBlock = some q ∨ w.heap.size ≤ q := fun q hq => by cases hq; exact hat
  have hr := h.rows.append ha (news := [.int .i64 x]) (n := N) (g := g) (cap := cap) (by simp [intL, hN]) hown hg hat
  rw [← e] at hr
  refine h.turn (i := n) (by omega) ha hg.os hg.tape hg.output hg.size (fun q hq hne => hg.block q hq (fun e => hne e.symm)) hr hl _ rfl ?_ ?_ ?_ ?_ ?_
  · exact ⟨_, List.getElem?_set_self hil⟩
  · rw [List.getElem?_set_ne (by omega)]; exact h.e1
  · rw [List.getElem?_set_ne (by omega)]; exact h.e2
  · rw [List.getElem?_set_ne (by omega)]; exact h.e3
  · rw [List.getElem?_set_ne (by omega)]; exact h.e4

/-- An element more in the row 'ranks'. -/
theorem Ls.app1 (h : Ls w0 w k m S R n s0 es G) {v : Value} (ha : es[n + 1]? = some ⟨v, 3, intL G.ranks⟩) {g cap N : Nat} (x : Nat) (hN : N = G.ranks.length + 1) (hown : w'.ownsRow 0 3 1 (.slice (some ⟨g, 0, none⟩) N cap) N (intL G.ranks ++ [.int .i64 x])) (hg : w.grownBy w' v.ownBlock) (hat : v.ownBlock = some g ∨ w.heap.size ≤ g) :
    Ls w0 w' k m S R n s0 (es.set (n + 1) ⟨.slice (some ⟨g, 0, none⟩) N cap, 3, intL (G.ranks ++ [x])⟩) { G with ranks := G.ranks ++ [x] } := by
  have hil : n + 1 < es.length := by rw [h.elen]; omega
  have e : intL (G.ranks ++ [x]) = intL G.ranks ++ [.int .i64 x] := by simp [intL]
  have hl : ∀ q, (Value.slice (some ⟨g, 0, none⟩) N cap).ownBlock = some q → v.ownBlock = some q ∨ w.heap.size ≤ q := fun q hq => by cases hq; exact hat
  have hr := h.rows.append ha (news := [.int .i64 x]) (n := N) (g := g) (cap := cap) (by simp [intL, hN]) hown hg hat
  rw [← e] at hr
  refine h.turn (i := n + 1) (by omega) ha hg.os hg.tape hg.output hg.size (fun q hq hne => hg.block q hq (fun e => hne e.symm)) hr hl _ rfl ?_ ?_ ?_ ?_ ?_
  · rw [List.getElem?_set_ne (by omega)]; exact h.e0
  · exact ⟨_, List.getElem?_set_self hil⟩
  · rw [List.getElem?_set_ne (by omega)]; exact h.e2
  · rw [List.getElem?_set_ne (by omega)]; exact h.e3
  · rw [List.getElem?_set_ne (by omega)]; exact h.e4

/-- An element more in the row 'frm'. -/
theorem Ls.app2 (h : Ls w0 w k m S R n s0 es G) {v : Value} (ha : es[n + 2]? = some ⟨v, 41, natL G.frm⟩) {g cap N : Nat} (x : Nat) (hN : N = G.frm.length + 1) (hown : w'.ownsRow 0 41 1 (.slice (some ⟨g, 0, none⟩) N cap) N (natL G.frm ++ [.int .u64 x])) (hg : w.grownBy w' v.ownBlock) (hat : v.ownBlock = some g ∨ w.heap.size ≤ g) :
    Ls w0 w' k m S R n s0 (es.set (n + 2) ⟨.slice (some ⟨g, 0, none⟩) N cap, 41, natL (G.frm ++ [x])⟩) { G with frm := G.frm ++ [x] } := by
  have hil : n + 2 < es.length := by rw [h.elen]; omega
  have e : natL (G.frm ++ [x]) = natL G.frm ++ [.int .u64 x] := by simp [natL]
  have hl : ∀ q, (Value.slice (some ⟨g, 0, none⟩) N cap).ownBlock = some q → v.ownBlock = some q ∨ w.heap.size ≤ q := fun q hq => by cases hq; exact hat
  have hr := h.rows.append ha (news := [.int .u64 x]) (n := N) (g := g) (cap := cap) (by simp [natL, hN]) hown hg hat
  rw [← e] at hr
  refine h.turn (i := n + 2) (by omega) ha hg.os hg.tape hg.output hg.size (fun q hq hne => hg.block q hq (fun e => hne e.symm)) hr hl _ rfl ?_ ?_ ?_ ?_ ?_
  · rw [List.getElem?_set_ne (by omega)]; exact h.e0
  · rw [List.getElem?_set_ne (by omega)]; exact h.e1
  · exact ⟨_, List.getElem?_set_self hil⟩
  · rw [List.getElem?_set_ne (by omega)]; exact h.e3
  · rw [List.getElem?_set_ne (by omega)]; exact h.e4

/-- An element more in the row 'last'. -/
theorem Ls.app3 (h : Ls w0 w k m S R n s0 es G) {v : Value} (ha : es[n + 3]? = some ⟨v, 41, natL G.last⟩) {g cap N : Nat} (x : Nat) (hN : N = G.last.length + 1) (hown : w'.ownsRow 0 41 1 (.slice (some ⟨g, 0, none⟩) N cap) N (natL G.last ++ [.int .u64 x])) (hg : w.grownBy w' v.ownBlock) (hat : v.ownBlock = some g ∨ w.heap.size ≤ g) :
    Ls w0 w' k m S R n s0 (es.set (n + 3) ⟨.slice (some ⟨g, 0, none⟩) N cap, 41, natL (G.last ++ [x])⟩) { G with last := G.last ++ [x] } := by
  have hil : n + 3 < es.length := by rw [h.elen]; omega
  have e : natL (G.last ++ [x]) = natL G.last ++ [.int .u64 x] := by simp [natL]
  have hl : ∀ q, (Value.slice (some ⟨g, 0, none⟩) N cap).ownBlock = some q → v.ownBlock = some q ∨ w.heap.size ≤ q := fun q hq => by cases hq; exact hat
  have hr := h.rows.append ha (news := [.int .u64 x]) (n := N) (g := g) (cap := cap) (by simp [natL, hN]) hown hg hat
  rw [← e] at hr
  refine h.turn (i := n + 3) (by omega) ha hg.os hg.tape hg.output hg.size (fun q hq hne => hg.block q hq (fun e => hne e.symm)) hr hl _ rfl ?_ ?_ ?_ ?_ ?_
  · rw [List.getElem?_set_ne (by omega)]; exact h.e0
  · rw [List.getElem?_set_ne (by omega)]; exact h.e1
  · rw [List.getElem?_set_ne (by omega)]; exact h.e2
  · exact ⟨_, List.getElem?_set_self hil⟩
  · rw [List.getElem?_set_ne (by omega)]; exact h.e4

/-- An element more in the row 'took'. -/
theorem Ls.app4 (h : Ls w0 w k m S R n s0 es G) {v : Value} (ha : es[n + 4]? = some ⟨v, 41, natL G.took⟩) {g cap N : Nat} (x : Nat) (hN : N = G.took.length + 1) (hown : w'.ownsRow 0 41 1 (.slice (some ⟨g, 0, none⟩) N cap) N (natL G.took ++ [.int .u64 x])) (hg : w.grownBy w' v.ownBlock) (hat : v.ownBlock = some g ∨ w.heap.size ≤ g) :
    Ls w0 w' k m S R n s0 (es.set (n + 4) ⟨.slice (some ⟨g, 0, none⟩) N cap, 41, natL (G.took ++ [x])⟩) { G with took := G.took ++ [x] } := by
  have hil : n + 4 < es.length := by rw [h.elen]; omega
  have e : natL (G.took ++ [x]) = natL G.took ++ [.int .u64 x] := by simp [natL]
  have hl : ∀ q, (Value.slice (some ⟨g, 0, none⟩) N cap).ownBlock = some q → v.ownBlock = some q ∨ w.heap.size ≤ q := fun q hq => by cases hq; exact hat
  have hr := h.rows.append ha (news := [.int .u64 x]) (n := N) (g := g) (cap := cap) (by simp [natL, hN]) hown hg hat
  rw [← e] at hr
  refine h.turn (i := n + 4) (by omega) ha hg.os hg.tape hg.output hg.size (fun q hq hne => hg.block q hq (fun e => hne e.symm)) hr hl _ rfl ?_ ?_ ?_ ?_ ?_
  · rw [List.getElem?_set_ne (by omega)]; exact h.e0
  · rw [List.getElem?_set_ne (by omega)]; exact h.e1
  · rw [List.getElem?_set_ne (by omega)]; exact h.e2
  · rw [List.getElem?_set_ne (by omega)]; exact h.e3
  · exact ⟨_, List.getElem?_set_self hil⟩

/-- An element of the row 'last' is written over. -/
theorem Ls.sto3 (h : Ls w0 w k m S R n s0 es G) {g c N : Nat} (ha : es[n + 3]? = some ⟨.slice (some ⟨g, 0, none⟩) N c, 41, natL G.last⟩) (hN : N = G.last.length) {q : Nat} (hq : q < N) (x : Nat) :
    Ls w0 (w.setCell ⟨g, q, none⟩ (.int .u64 x)) k m S R n s0 (es.set (n + 3) ⟨.slice (some ⟨g, 0, none⟩) N c, 41, natL (G.last.set q x)⟩) { G with last := G.last.set q x } := by
  have hil : n + 3 < es.length := by rw [h.elen]; omega
  have e : natL (G.last.set q x) = (natL G.last).set q (.int .u64 x) := by simp [natL, List.map_set]
  have hr := h.rows.store ha rfl (by simp [natL, hN]) hq (.int .u64 x)
  simp only at hr
  rw [← e] at hr
  refine h.turn (w' := w.setCell ⟨g, q, none⟩ (.int .u64 x)) (i := n + 3) (by omega) ha rfl rfl rfl (by simp) (fun j hj hne => Below.heap_setCell w ⟨g, q, none⟩ _ _ (fun e => hne (by rw [show j = g from e]; rfl))) hr (fun j hj => .inl hj) _ rfl ?_ ?_ ?_ ?_ ?_
  · rw [List.getElem?_set_ne (by omega)]; exact h.e0
  · rw [List.getElem?_set_ne (by omega)]; exact h.e1
  · rw [List.getElem?_set_ne (by omega)]; exact h.e2
  · exact ⟨_, List.getElem?_set_self hil⟩
  · rw [List.getElem?_set_ne (by omega)]; exact h.e4

/-- An element of the row 'took' is written over. -/
theorem Ls.sto4 (h : Ls w0 w k m S R n s0 es G) {g c N : Nat} (ha : es[n + 4]? = some ⟨.slice (some ⟨g, 0, none⟩) N c, 41, natL G.took⟩) (hN : N = G.took.length) {q : Nat} (hq : q < N) (x : Nat) :
    Ls w0 (w.setCell ⟨g, q, none⟩ (.int .u64 x)) k m S R n s0 (es.set (n + 4) ⟨.slice (some ⟨g, 0, none⟩) N c, 41, natL (G.took.set q x)⟩) { G with took := G.took.set q x } := by
  have hil : n + 4 < es.length := by rw [h.elen]; omega
  have e : natL (G.took.set q x) = (natL G.took).set q (.int .u64 x) := by simp [natL, List.map_set]
  have hr := h.rows.store ha rfl (by simp [natL, hN]) hq (.int .u64 x)
  simp only at hr
  rw [← e] at hr
  refine h.turn (w' := w.setCell ⟨g, q, none⟩ (.int .u64 x)) (i := n + 4) (by omega) ha rfl rfl rfl (by simp) (fun j hj hne => Below.heap_setCell w ⟨g, q, none⟩ _ _ (fun e => hne (by rw [show j = g from e]; rfl))) hr (fun j hj => .inl hj) _ rfl ?_ ?_ ?_ ?_ ?_
  · rw [List.getElem?_set_ne (by omega)]; exact h.e0
  · rw [List.getElem?_set_ne (by omega)]; exact h.e1
  · rw [List.getElem?_set_ne (by omega)]; exact h.e2
  · rw [List.getElem?_set_ne (by omega)]; exact h.e3
  · exact ⟨_, List.getElem?_set_self hil⟩

/-- What is neither the blackboard's nor the law's may be anything. -/
theorem Ls.frame (h : Ls w0 w k m S R n s0 es G) (hs : w.heap.size ≤ w'.heap.size) (hb : Below w0.heap.size w0 w') (hk : ∀ i, (m.own i ∨ m.ro i) ∨ ROwn R es i ∨ i < s0 → w'.heap[i]? = w.heap[i]?) : Ls w0 w' k m S R n s0 es G :=
  { h with
    play := ⟨h.play.is.frame hs (fun i hi => hk i (.inl hi)), hb, h.play.own⟩
    rows := h.rows.keep hs (fun i hi => hk i (.inr (.inl hi)))
    blk := (hk R (.inr (.inl (.inl rfl)))).trans h.blk
    cell := fun t a r ht ha hr => by
      obtain ⟨h1, h2, h3⟩ := h.cell t a r ht ha hr
      refine ⟨h1, h2, fun g u ws hu hw => ?_⟩
      obtain ⟨h4, h5⟩ := h3 g u ws hu hw
      exact ⟨h4.keepAt hs (fun q hq => hk q (.inr (.inr (h5 q hq).1))), h5⟩
    s0 := Nat.le_trans h.s0 hs }

end

end Go.Proofs.YtbbcajnbdebmfaaDoor

namespace Go.Proofs.YtbbcajnbdebmfaaDoor
open Go.RowKit

def zerosL (p : Tp) : List Int := List.replicate p.2.1.toNat 0

/-- The rows of the first topics are there. -/
structure Lz (w4 w : World) (R n : Nat) (ts : List Tp) (es : List Ent) : Prop where
  below : Below w4.heap.size w4 w
  rows : Lrs w R es
  blk : w.heap[R]? = some (.cells (es.map Ent.v ++ List.replicate (n - es.length) nilS).toArray 39)
  cell : ∀ (t : Nat) (a : Ent) (p : Tp), es[t]? = some a → ts[t]? = some p → a.e = 36 ∧ ∃ z, a.xs = [z] ∧ Rd w z 1 (zerosL p).length (u64V (zerosL p)) ∧ ∀ q, z.ownBlock = some q → ¬ ROwn R es q ∧ w4.heap.size ≤ q ∧ q < w.heap.size
  low : ∀ i, ROwn R es i → w4.heap.size ≤ i

section
variable {w4 w : World} {R n : Nat} {ts : List Tp} {es : List Ent}

theorem set_row1 (xs : List Value) (n : Nat) (v : Value) (h : xs.length < n) : (xs ++ List.replicate (n - xs.length) nilS).toArray.setIfInBounds xs.length v = ((xs ++ [v]) ++ List.replicate (n - (xs ++ [v]).length) nilS).toArray := set_rows xs n v h

/-- One topic's row more: a record of zeros, in a row of one. -/
theorem Lz.step (h : Lz w4 w R n ts es) (hlt : es.length < n) (j : Nat) (hj : j = es.length) {p : Tp} (hp : ts[j]? = some p) (W : Nat) (hW : W = p.2.1.toNat) (hpos : 0 < W) (h100 : W ≤ 100) :
    Lz w4 (((w.alloc (.cells (madeCells #[.int .u64 0] W) 41)).alloc (.cells #[.slice (some ⟨w.heap.size, 0, none⟩) W W] 36)).setCell ⟨R, j, none⟩ (.slice (some ⟨w.heap.size + 1, 0, none⟩) 1 1)) R n ts
      (es ++ [⟨.slice (some ⟨w.heap.size + 1, 0, none⟩) 1 1, 36, [.slice (some ⟨w.heap.size, 0, none⟩) W W]⟩]) := by
  obtain ⟨y, hy⟩ : ∃ y, y = (w.alloc (.cells (madeCells #[.int .u64 0] W) 41)).alloc (.cells #[.slice (some ⟨w.heap.size, 0, none⟩) W W] 36) := ⟨_, rfl⟩
  have hyB : Below w.heap.size w y := by rw [hy]; exact below_new2 w _ _
  have hy0 : y.heap[w.heap.size]? = some (.cells (madeCells #[.int .u64 0] W) 41) := by rw [hy]; exact (heap_two w _ _).1
  have hy1 : y.heap[w.heap.size + 1]? = some (.cells #[.slice (some ⟨w.heap.size, 0, none⟩) W W] 36) := by rw [hy]; exact (heap_two w _ _).2
  have hys : y.heap.size = w.heap.size + 2 := by rw [hy]; simp
  rw [← hy]
  clear hy
  obtain ⟨v, hv⟩ : ∃ v : Value, v = .slice (some ⟨w.heap.size + 1, 0, none⟩) 1 1 := ⟨_, rfl⟩
  rw [← hv]
  have hRl := h.rows.ltR
  have hne : ∀ q, q ≠ R → (y.setCell ⟨R, j, none⟩ v).heap[q]? = y.heap[q]? := fun q hq => Below.heap_setCell y ⟨R, j, none⟩ _ _ hq
  have hsz : (y.setCell ⟨R, j, none⟩ v).heap.size = w.heap.size + 2 := by simpa using hys
  have hold := (h.rows.below hyB).setR j v
  have hown : (y.setCell ⟨R, j, none⟩ v).ownsRow 0 36 1 v 1 [.slice (some ⟨w.heap.size, 0, none⟩) W W] :=
    ⟨rfl, .inr ⟨w.heap.size + 1, 1, _, hv, Nat.zero_le _, (hne _ (by omega)).trans hy1, Nat.le_refl _, by unfold maxLen; omega, rfl, rfl⟩⟩
  have hvb : ∀ q, v.ownBlock = some q → q = w.heap.size + 1 := fun q hq => by rw [hv] at hq; cases hq; rfl
  have hRO : ∀ q, ROwn R (es ++ [⟨v, 36, [.slice (some ⟨w.heap.size, 0, none⟩) W W]⟩]) q → ROwn R es q ∨ q = w.heap.size + 1 := fun q hq => by
    rcases hq with e | ⟨a, ha, hq⟩
    · exact .inl (.inl e)
    · rcases List.mem_append.1 ha with h1 | h1
      · exact .inl (.inr ⟨a, h1, hq⟩)
      · rw [List.mem_singleton] at h1
        subst h1
        exact .inr (hvb q hq)
  refine ⟨(below2 h.below hyB).setCell (p := ⟨R, j, none⟩) (h.low R (.inl rfl)) _, ⟨fun i a ha => ?_, fun i l a b ha hb hil q hqa hqb => ?_, fun i a ha hq => ?_, by rw [hsz]; omega⟩, ?_, fun t a p' ha hp' => ?_, fun i hi => ?_⟩
  · by_cases hi : i < es.length
    · rw [List.getElem?_append_left hi] at ha
      exact hold.own i a ha
    · have : i = es.length := by have := (List.getElem?_eq_some_iff.1 ha).1; simp at this; omega
      subst this
      rw [List.getElem?_append_right (Nat.le_refl _)] at ha
      simp at ha
      subst ha
      exact hown
  · have hnew : ∀ (i : Nat) (a : Ent), es[i]? = some a → ∀ q, a.v.ownBlock = some q → q ≠ w.heap.size + 1 := fun i a ha q hq => by have := ((h.rows.own i a ha).lt q hq).2; omega
    by_cases hi : i < es.length
    · rw [List.getElem?_append_left hi] at ha
      by_cases hl : l < es.length
      · rw [List.getElem?_append_left hl] at hb
        exact h.rows.dis i l a b ha hb hil q hqa hqb
      · have : l = es.length := by have := (List.getElem?_eq_some_iff.1 hb).1; simp at this; omega
        subst this
        rw [List.getElem?_append_right (Nat.le_refl _)] at hb
        simp at hb
        subst hb
        exact hnew i a ha q hqa (hvb q hqb)
    · have : i = es.length := by have := (List.getElem?_eq_some_iff.1 ha).1; simp at this; omega
      subst this
      rw [List.getElem?_append_right (Nat.le_refl _)] at ha
      simp at ha
      subst ha
      have hl : l < es.length := by have := (List.getElem?_eq_some_iff.1 hb).1; simp at this; omega
      rw [List.getElem?_append_left hl] at hb
      exact hnew l b hb q hqb (hvb q hqa)
  · by_cases hi : i < es.length
    · rw [List.getElem?_append_left hi] at ha
      exact h.rows.nR i a ha hq
    · have : i = es.length := by have := (List.getElem?_eq_some_iff.1 ha).1; simp at this; omega
      subst this
      rw [List.getElem?_append_right (Nat.le_refl _)] at ha
      simp at ha
      subst ha
      have := hvb R hq
      omega
  · rw [heap_setCell_same y R j _ _ _ ((hyB.block R hRl).trans h.blk)]
    congr 2
    rw [hj]
    have := set_row1 (es.map Ent.v) n v (by simpa using hlt)
    simp only [List.length_map] at this
    rw [this]
    simp
  · by_cases ht : t < es.length
    · rw [List.getElem?_append_left ht] at ha
      obtain ⟨h1, z, h2, h3, h4⟩ := h.cell t a p' ha hp'
      exact ⟨h1, z, h2, h3.keepAt (by rw [hsz]; omega) (fun q hq => (hne q (fun e => (h4 q hq).1 (.inl e))).trans (hyB.block q (h4 q hq).2.2)), fun q hq => ⟨fun hn => (hRO q hn).elim (h4 q hq).1 (fun e => by have := (h4 q hq).2.2; omega), (h4 q hq).2.1, by rw [hsz]; have := (h4 q hq).2.2; omega⟩⟩
    · have : t = es.length := by have := (List.getElem?_eq_some_iff.1 ha).1; simp at this; omega
      subst this
      rw [List.getElem?_append_right (Nat.le_refl _)] at ha
      simp at ha
      subst ha
      rw [← hj, hp] at hp'
      cases hp'
      refine ⟨rfl, _, rfl, ?_, fun q hq => ?_⟩
      · have hz : (zerosL p).length = W := by simp [zerosL, hW]
        rw [hz]
        refine Rd.of_own (base := 0) (e := 41) ⟨by simp [zerosL, hW], .inr ⟨w.heap.size, W, _, rfl, Nat.zero_le _, (hne _ (by omega)).trans hy0, Nat.le_refl _, by unfold maxLen; omega, by rw [size_madeCells]; omega, ?_⟩⟩
        have : (madeCells #[.int .u64 0] W).toList = List.replicate W (.int .u64 0) := toList_madeCells_one _ _
        simp [zerosL, ← hW, this]
      · have e : q = w.heap.size := by cases hq; rfl
        subst e
        refine ⟨fun hn => (hRO _ hn).elim (fun h1 => by have := h.rows.lt h1; omega) (fun e => by omega), h.below.size, by rw [hsz]; omega⟩
  · rcases hRO i hi with h1 | h1
    · exact h.low i h1
    · have := h.below.size; omega

/-- The five rows on subscriptions: nothing yet. -/
def nils5 : List Ent := [⟨nilS, 3, []⟩, ⟨nilS, 3, []⟩, ⟨nilS, 41, []⟩, ⟨nilS, 41, []⟩, ⟨nilS, 41, []⟩]

theorem nils5_at {i : Nat} {a : Ent} (h : nils5[i]? = some a) : a.v = nilS ∧ a.xs = [] := by
  match i, h with
  | 0, h => cases h; exact ⟨rfl, rfl⟩
  | 1, h => cases h; exact ⟨rfl, rfl⟩
  | 2, h => cases h; exact ⟨rfl, rfl⟩
  | 3, h => cases h; exact ⟨rfl, rfl⟩
  | 4, h => cases h; exact ⟨rfl, rfl⟩
  | i + 5, h => simp [nils5] at h

theorem ROwn.nils {R i : Nat} {es : List Ent} (h : ROwn R (es ++ nils5) i) : ROwn R es i := by
  rcases h with e | ⟨a, ha, hq⟩
  · exact .inl e
  · rcases List.mem_append.1 ha with h1 | h1
    · exact .inr ⟨a, h1, hq⟩
    · obtain ⟨j, hj⟩ := List.mem_iff_getElem?.1 h1
      rw [(nils5_at hj).1] at hq
      cases hq

theorem nils_cases {es : List Ent} {i : Nat} {a : Ent} (h : (es ++ nils5)[i]? = some a) : (i < es.length ∧ es[i]? = some a) ∨ (es.length ≤ i ∧ a.v = nilS ∧ a.xs = []) := by
  by_cases hi : i < es.length
  · rw [List.getElem?_append_left hi] at h
    exact .inl ⟨hi, h⟩
  · rw [List.getElem?_append_right (Nat.le_of_not_lt hi)] at h
    exact .inr ⟨Nat.le_of_not_lt hi, nils5_at h⟩

theorem Lz.fin (h : Lz w4 w R n ts es) (hn : es.length = n) (htn : ts.length = n) {w0 : World} {k : Nat} {m : Mem} {S : Bd} (P : Play w0 w4 k m S) :
    Ls w0 w k m S R n w.heap.size (es ++ nils5) ⟨recs0 ts, [], [], [], [], []⟩ where
  play := P.on h.below
  rows := {
    own := fun i a ha => by
      rcases nils_cases ha with ⟨-, h1⟩ | ⟨-, h1, h2⟩
      · exact h.rows.own i a h1
      · rw [h1, h2]; exact World.ownsRow_nil _ _ _ _
    dis := fun i j a b ha hb hij q hqa hqb => by
      rcases nils_cases ha with ⟨-, h1⟩ | ⟨-, h1, -⟩
      · rcases nils_cases hb with ⟨-, h2⟩ | ⟨-, h2, -⟩
        · exact h.rows.dis i j a b h1 h2 hij q hqa hqb
        · rw [h2] at hqb; cases hqb
      · rw [h1] at hqa; cases hqa
    nR := fun i a ha hq => by
      rcases nils_cases ha with ⟨-, h1⟩ | ⟨-, h1, -⟩
      · exact h.rows.nR i a h1 hq
      · rw [h1] at hq; cases hq
    ltR := h.rows.ltR }
  blk := by
    have := h.blk
    rw [hn, Nat.sub_self] at this
    rw [this]
    congr 2
    rw [List.take_append_of_le_length (by omega), List.take_of_length_le (by omega)]
    simp
  elen := by simp [nils5, hn]
  rlen := by simp [recs0, htn]
  cell := fun t a r ht ha hr => by
    have ha' : es[t]? = some a := by rw [List.getElem?_append_left (by omega)] at ha; exact ha
    simp only [recs0, List.getElem?_map, Option.map_eq_some_iff] at hr
    obtain ⟨p, hp, rfl⟩ := hr
    obtain ⟨h1, z, h2, h3, h4⟩ := h.cell t a p ha' hp
    refine ⟨h1, by rw [h2]; rfl, fun g u ws hu hw => ?_⟩
    rw [h2] at hu
    match g, hu, hw with
    | 0, hu, hw =>
      simp only [List.getElem?_cons_zero, Option.some.injEq] at hu hw
      subst hu hw
      exact ⟨h3, fun q hq => ⟨(h4 q hq).2.2, fun hn => (h4 q hq).1 hn.nils, fun ho => by have := P.is.lt q (.inl ho); have := (h4 q hq).2.1; omega⟩⟩
    | g + 1, hu, hw => simp at hu
  e0 := ⟨nilS, by rw [List.getElem?_append_right (by omega), hn, Nat.sub_self]; rfl⟩
  e1 := ⟨nilS, by rw [List.getElem?_append_right (by omega), hn, Nat.add_sub_cancel_left]; rfl⟩
  e2 := ⟨nilS, by rw [List.getElem?_append_right (by omega), hn, Nat.add_sub_cancel_left]; rfl⟩
  e3 := ⟨nilS, by rw [List.getElem?_append_right (by omega), hn, Nat.add_sub_cancel_left]; rfl⟩
  e4 := ⟨nilS, by rw [List.getElem?_append_right (by omega), hn, Nat.add_sub_cancel_left]; rfl⟩
  dis := fun i hi => ⟨fun ho => by have := P.is.lt i (.inl ho); have := h.low i hi.nils; omega, fun ho => by have := P.is.lt i (.inr ho); have := h.low i hi.nils; omega⟩
  low := fun i hi => Nat.le_trans P.below.size (h.low i hi.nils)
  s0 := Nat.le_refl _

end

end Go.Proofs.YtbbcajnbdebmfaaDoor
