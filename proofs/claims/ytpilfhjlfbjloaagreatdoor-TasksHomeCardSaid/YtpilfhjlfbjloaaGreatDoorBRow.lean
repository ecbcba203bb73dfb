/-
  Two moves of a walk through a region that draws, over a written-out list of operations. Conditions: none. A task's row of subscriptions turned, in memory. Conditions: a blackboard in memory.
-/
import Derived.Deep.RegionHeld3
import Derived.Test.YtpilfhjlfbjloaaGreatDoorBPub
namespace Go.Proofs.YtpilfhjlfbjloaaGreatDoor

section
variable {P : Program} {l : List Oper} {Q : Exit → Act → World → Prop} {md : Region.Mode} {S : World → Prop}

theorem held_take {i : Nat} {oi : Oper} {v : Value} {fuel : Nat} {listed : Array Bool} {a : Act} {w : World} (hi : l[i]? = some oi)
    (hs : Region.noSelect l.toArray = true) (hf : Region.free md l.toArray listed i = true) (hr : (Region.ready md l.toArray listed).contains i = true)
    (hQ : ∀ c a w, Q (.panic c) (a.put oi.dst v) w → Q (.panic c) a w) (hy : YieldsIf P l.toArray S oi v a) (hS : S w)
    (h : wpAnyH P md l.toArray Q S fuel (listed.setIfInBounds i true) (a.put oi.dst v) w) : wpAnyH P md l.toArray Q S (fuel + 1) listed a w :=
  wpAnyH_take (by simpa using hi) hs hf hr hQ hy hS h

theorem held_cons {fuel : Nat} {listed : Array Bool} {a : Act} {w : World} {i : Nat} {o : Oper} {rs : List Nat} (ho : l[i]? = some o)
    (h : ∀ K' : Act → World → Prop, Shut (∀ a w, S w → (S w → wpAnyH P md l.toArray Q S fuel (listed.setIfInBounds i true) a w) → K' a w) → if Region.wanted o (yielded l.toArray a.tmps) = true then Oper.wp P o a w K' Q else K' (a.put o.dst undef) w)
    (hs : AllReadyH P md l.toArray Q S fuel listed a w rs) : AllReadyH P md l.toArray Q S fuel listed a w (i :: rs) :=
  AllReadyH.cons (by simpa using ho) h hs

end

end Go.Proofs.YtpilfhjlfbjloaaGreatDoor

namespace Go.Proofs.YtpilfhjlfbjloaaGreatDoor
open Go.RowKit

theorem mem_set {α : Type} {l : List α} {i : Nat} {a x : α} (h : x ∈ l.set i a) : x = a ∨ ∃ j, j ≠ i ∧ l[j]? = some x := by
  obtain ⟨j, hj⟩ := List.getElem?_of_mem h
  by_cases hji : j = i
  · subst hji
    rw [List.getElem?_set] at hj
    simp at hj
    exact .inl hj.2.symm
  · rw [List.getElem?_set_ne (Ne.symm hji)] at hj
    exact .inr ⟨j, hji, hj⟩

theorem get_set {α : Type} {l : List α} {i j : Nat} {a x : α} (h : (l.set i a)[j]? = some x) : (j = i ∧ x = a) ∨ (j ≠ i ∧ l[j]? = some x) := by
  by_cases hji : j = i
  · subst hji
    rw [List.getElem?_set] at h
    simp at h
    exact .inl ⟨rfl, h.2.symm⟩
  · rw [List.getElem?_set_ne (Ne.symm hji)] at h
    exact .inr ⟨hji, h⟩

abbrev Mem.setRow (m : Mem) (task : Nat) (v : Value) : Mem := { m with rows := m.rows.set task v }

theorem setRow_own {m : Mem} {task n : Nat} {v v' : Value} (hv : m.rows[task]? = some v) (hb : ∀ q, v'.ownBlock = some q → v.ownBlock = some q ∨ n ≤ q) (i : Nat) (hi : (m.setRow task v').own i) : m.own i ∨ n ≤ i := by
  rcases hi with h | h | h | h | h | ⟨u, hu, hq⟩
  · exact .inl (.inl h)
  · exact .inl (.inr (.inl h))
  · exact .inl (.inr (.inr (.inl h)))
  · exact .inl (.inr (.inr (.inr (.inl h))))
  · exact .inl (.inr (.inr (.inr (.inr (.inl h)))))
  · rcases mem_set hu with rfl | ⟨j, -, hj⟩
    · exact (hb i hq).imp (fun h => .inr (.inr (.inr (.inr (.inr ⟨v, List.mem_of_getElem? hv, h⟩))))) id
    · exact .inl (.inr (.inr (.inr (.inr (.inr ⟨u, List.mem_of_getElem? hj, hq⟩)))))

theorem IsBd.set_row {k : Nat} {w w' : World} {m : Mem} {S : Bd} (h : IsBd k w m S) (hk1 : k + 1 ≤ 1000000) {task : Nat} {v v' : Value} (hv : m.rows[task]? = some v) {l' : List Sb}
    (hl8 : l'.length ≤ 8) (hlk : ∀ s ∈ l', s.topic < S.tp.length ∧ s.rank ≤ 255 ∧ 1 ≤ s.cu.cap ∧ s.cu.cap ≤ 15 ∧ s.cu.next ≤ k + 2 ∧ s.cu.got + s.cu.lost + 1 ≤ s.cu.next)
    (hs : w.heap.size ≤ w'.heap.size) (hk : ∀ i, i ≠ m.sb → v.ownBlock ≠ some i → i < w.heap.size → w'.heap[i]? = w.heap[i]?)
    (hsub : w'.heap[m.sb]? = some (.cells (m.rows.set task v').toArray 131)) (hrow : w'.ownsRow 0 137 6 v' l'.length (flatSb l')) (hb : ∀ q, v'.ownBlock = some q → v.ownBlock = some q ∨ w.heap.size ≤ q) :
    IsBd (k + 1) w' (m.setRow task v') { S with subs := S.subs.set task l' } := by
  have hnd := h.nd
  simp only [List.nodup_cons, List.mem_cons, List.not_mem_nil, or_false, not_or] at hnd
  obtain ⟨⟨n1, n2, n3, n4⟩, ⟨n5, n6, n7⟩, ⟨n8, n9⟩, n10, -⟩ := hnd
  have hvm := List.mem_of_getElem? hv
  have hvown : ∀ q, v.ownBlock = some q → m.own q := fun q hq => .inr (.inr (.inr (.inr (.inr ⟨v, hvm, hq⟩))))
  have hro : ∀ i, m.ro i → w'.heap[i]? = w.heap[i]? := fun i hi => hk i (fun e => h.disj i (.inr (.inr (.inr (.inr (.inl e))))) hi) (fun e => h.disj i (hvown i e) hi) (h.lt i (.inr hi))
  have hi := h.inv.mono (Nat.le_succ k)
  have hother : ∀ b, b ≠ m.sb → m.own b → (∀ u ∈ m.rows, u.ownBlock ≠ some b) → w'.heap[b]? = w.heap[b]? := fun b h1 h2 h3 => hk b h1 (h3 v hvm) (h.lt b (.inl h2))
  have hrb : ∀ b, (b = m.bb ∨ b = m.rb ∨ b = m.gb ∨ b = m.ob) → ∀ u ∈ m.rows, u.ownBlock ≠ some b := fun b hb' u hu hq => by
    obtain ⟨r1, r2, r3, r4, r5⟩ := h.rown u hu b hq
    rcases hb' with e | e | e | e
    · exact r1 e
    · exact r2 e
    · exact r3 e
    · exact r4 e
  have hnew : ∀ q, v'.ownBlock = some q → q ≠ m.bb ∧ q ≠ m.rb ∧ q ≠ m.gb ∧ q ≠ m.ob ∧ q ≠ m.sb := fun q hq => by
    rcases hb q hq with h1 | h1
    · exact h.rown v hvm q h1
    · have l1 := h.lt m.bb (.inl (.inl rfl))
      have l2 := h.lt m.rb (.inl (.inr (.inl rfl)))
      have l3 := h.lt m.gb (.inl (.inr (.inr (.inl rfl))))
      have l4 := h.lt m.ob (.inl (.inr (.inr (.inr (.inl rfl)))))
      have l5 := h.lt m.sb (.inl (.inr (.inr (.inr (.inr (.inl rfl))))))
      omega
  exact
  { inv := ⟨hi.tasks, hi.tlen, hi.tp, hi.glen, hi.gk, by rw [List.length_set]; exact hi.slen, fun l hl => by
        rcases mem_set hl with rfl | ⟨j, -, hj⟩
        · exact hl8
        · exact hi.sub8 l (List.mem_of_getElem? hj), fun l hl s hs => by
        rcases mem_set hl with rfl | ⟨j, -, hj⟩
        · exact hlk s hs
        · exact hi.subs l (List.mem_of_getElem? hj) s hs, hi.owns, hi.reg, hi.recs, hi.kept⟩
    kk := hk1
    blk := (hother _ n4 (.inl rfl) (hrb _ (.inl rfl))).trans h.blk
    gens := own_keepAt h.gens (fun q hq => by cases hq; exact hother _ n9 (.inr (.inr (.inl rfl))) (hrb _ (.inr (.inr (.inl rfl)))))
    recs := (h.recs.mono (by omega)).keep (hother _ n7 (.inr (.inl rfl)) (hrb _ (.inr (.inl rfl))))
    owns := (h.owns.mono (Nat.le_succ k)).keep (hother _ n10 (.inr (.inr (.inr (.inl rfl)))) (hrb _ (.inr (.inr (.inr rfl)))))
    subs := hsub
    rlen := by show (m.rows.set task v').length = _; rw [List.length_set]; exact h.rlen
    rows := fun t u l hu hl => by
      rcases get_set hu with ⟨rfl, rfl⟩ | ⟨hne, hu'⟩
      · rcases get_set hl with ⟨-, rfl⟩ | ⟨hne, -⟩
        · exact hrow
        · exact absurd rfl hne
      · rcases get_set hl with ⟨e, -⟩ | ⟨-, hl'⟩
        · exact absurd e hne
        · refine own_keepAt (h.rows t u l hu' hl') (fun q hq => hk q (h.rown u (List.mem_of_getElem? hu') q hq).2.2.2.2 (fun e => ?_) (h.lt q (.inl (.inr (.inr (.inr (.inr (.inr ⟨u, List.mem_of_getElem? hu', hq⟩))))))))
          exact h.rdis task t v u hv hu' (Ne.symm hne) q e hq
    topics := h.topics.keepAt hs (fun q hq => hro q (.inl hq))
    rd := fun t g u hu => by
      obtain ⟨ws, h1, h2⟩ := h.rd t g u hu
      exact ⟨ws, h1, h2.keepAt hs (fun q hq => hro q (.inr ⟨t, g, u, hu, hq⟩))⟩
    rn := h.rn
    nd := h.nd
    rown := fun u hu q hq => by
      rcases mem_set hu with rfl | ⟨j, -, hj⟩
      · exact hnew q hq
      · exact h.rown u (List.mem_of_getElem? hj) q hq
    rdis := fun i j u x hu hx hij q hq => by
      rcases get_set hu with ⟨rfl, rfl⟩ | ⟨hne, hu'⟩
      · rcases get_set hx with ⟨e, -⟩ | ⟨hne2, hx'⟩
        · exact absurd e.symm hij
        · intro hq2
          rcases hb q hq with h1 | h1
          · exact h.rdis i j v x hv hx' hij q h1 hq2
          · have := h.lt q (.inl (.inr (.inr (.inr (.inr (.inr ⟨x, List.mem_of_getElem? hx', hq2⟩))))))
            omega
      · rcases get_set hx with ⟨rfl, rfl⟩ | ⟨hne2, hx'⟩
        · intro hq2
          rcases hb q hq2 with h1 | h1
          · exact h.rdis j i v u hv hu' (Ne.symm hij) q h1 hq
          · have := h.lt q (.inl (.inr (.inr (.inr (.inr (.inr ⟨u, List.mem_of_getElem? hu', hq⟩))))))
            omega
        · exact h.rdis i j u x hu' hx' hij q hq
    disj := fun i hi hr => by
      rcases setRow_own hv hb i hi with h1 | h1
      · exact h.disj i h1 hr
      · have := h.lt i (.inr hr); omega
    lt := fun i hi => by
      rcases hi with hi | hi
      · rcases hi with e | e | e | e | e | ⟨u, hu, hq⟩
        · exact Nat.lt_of_lt_of_le (h.lt i (.inl (.inl e))) hs
        · exact Nat.lt_of_lt_of_le (h.lt i (.inl (.inr (.inl e)))) hs
        · exact Nat.lt_of_lt_of_le (h.lt i (.inl (.inr (.inr (.inl e))))) hs
        · exact Nat.lt_of_lt_of_le (h.lt i (.inl (.inr (.inr (.inr (.inl e)))))) hs
        · exact Nat.lt_of_lt_of_le (h.lt i (.inl (.inr (.inr (.inr (.inr (.inl e))))))) hs
        · rcases mem_set hu with rfl | ⟨j, -, hj⟩
          · exact (hrow.lt i hq).2
          · exact Nat.lt_of_lt_of_le (h.lt i (.inl (.inr (.inr (.inr (.inr (.inr ⟨u, List.mem_of_getElem? hj, hq⟩))))))) hs
      · exact Nat.lt_of_lt_of_le (h.lt i (.inr hi)) hs }

end Go.Proofs.YtpilfhjlfbjloaaGreatDoor
