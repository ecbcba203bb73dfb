/-
  An order that is found: plain facts on the trying. Conditions: none.
-/
import Derived.Test.YtkkflnmfghegnaaGreatDoorLLegal
namespace Go.Proofs.YtkkflnmfghegnaaGreatDoor
open Go.RowKit

/-- One branch of the trying. -/
def tryB (l : List Ev) (f : Nat) (S : Bd) (order : List Int) (k : Nat) : Option (List Int) :=
  match l[k]? with
  | none => none
  | some e => if mayNext l order k && (doesS S e).2 then tryS l f (doesS S e).1 (order ++ [(k : Int)]) else none

theorem tryS_succ (l : List Ev) (f : Nat) (S : Bd) (order : List Int) : tryS l (f + 1) S order = if (wholeS l order).2 = 0 then some order else (List.range l.length).findSome? (tryB l f S order) := rfl
theorem try_whole {l : List Ev} {f : Nat} {S : Bd} {order : List Int} (h : (wholeS l order).2 = 0) : tryS l (f + 1) S order = some order := by rw [tryS_succ, if_pos h]
theorem try_none {l : List Ev} {f : Nat} {S : Bd} {order : List Int} (h : (wholeS l order).2 ≠ 0) (hq : ∀ q, q < l.length → tryB l f S order q = none) : tryS l (f + 1) S order = none := by
  rw [tryS_succ, if_neg h, List.findSome?_eq_none_iff]
  exact fun q hm => hq q (List.mem_range.1 hm)
theorem try_some {l : List Ev} {f : Nat} {S : Bd} {order r : List Int} {k : Nat} (h : (wholeS l order).2 ≠ 0) (hk : k < l.length) (hq : ∀ q, q < k → tryB l f S order q = none) (hr : tryB l f S order k = some r) : tryS l (f + 1) S order = some r := by
  rw [tryS_succ, if_neg h]
  have e : List.range l.length = List.range k ++ (List.range (l.length - k)).map (k + ·) := by rw [← List.range_add]; congr 1; omega
  rw [e, List.findSome?_append]
  have h1 : (List.range k).findSome? (tryB l f S order) = none := by
    rw [List.findSome?_eq_none_iff]
    exact fun q hm => hq q (List.mem_range.1 hm)
  rw [h1]
  obtain ⟨d, hd⟩ : ∃ d, l.length - k = d + 1 := ⟨l.length - k - 1, by omega⟩
  rw [hd, List.range_succ_eq_map]
  simp [hr]

/-- How many are not in an order yet. -/
def rem (n : Nat) (order : List Int) : Nat := ((List.range n).filter fun k : Nat => !order.contains (k : Int)).length

theorem rem_le (n : Nat) (order : List Int) : rem n order ≤ n := by
  have := List.length_filter_le (fun k : Nat => !order.contains (k : Int)) (List.range n)
  simpa [rem] using this

theorem rem_snoc {n : Nat} {order : List Int} {k : Nat} (hk : k < n) (hc : order.contains (k : Int) = false) : rem n (order ++ [(k : Int)]) < rem n order := by
  have e : (List.range n).filter (fun j : Nat => !(order ++ [(k : Int)]).contains (j : Int)) = ((List.range n).filter (fun j : Nat => !order.contains (j : Int))).filter (fun j => !(j == k)) := by
    rw [List.filter_filter]
    congr 1
    funext j
    rw [List.contains_append]
    by_cases hj : j = k
    · subst hj; simp
    · have hji : ¬ (j : Int) = (k : Int) := by omega
      have hb2 : (j == k) = false := by simpa using hj
      simp [hb2, hji]
  unfold rem
  rw [e]
  refine List.length_filter_lt_length_iff_exists.2 ⟨k, ?_, by simp⟩
  rw [List.mem_filter]
  exact ⟨List.mem_range.2 hk, by rw [hc]; rfl⟩

theorem tryB_failed {l : List Ev} {f : Nat} {S : Bd} {order : List Int} {k : Nat} {e : Ev} (he : l[k]? = some e) (h : failedB e = true) : tryB l f S order k = none := by
  unfold tryB mayNext
  simp [he, h]
theorem tryB_in {l : List Ev} {f : Nat} {S : Bd} {order : List Int} {k : Nat} {e : Ev} (he : l[k]? = some e) (h : order.contains (k : Int) = true) : tryB l f S order k = none := by
  have h' := h
  rw [List.contains_iff_mem] at h'
  unfold tryB mayNext
  simp [he, h']
theorem tryB_ahead {l : List Ev} {f : Nat} {S : Bd} {order : List Int} {k : Nat} {e : Ev} {a : Int} (he : l[k]? = some e) (ha : a ∈ order) (h : aheadE l k a = true) : tryB l f S order k = none := by
  have hx : order.all (fun a => !aheadE l k a) = false := by
    rw [List.all_eq_false]
    exact ⟨a, ha, by rw [h]; simp⟩
  unfold tryB mayNext
  simp only [he]
  rw [hx]
  simp
theorem may_next {l : List Ev} {order : List Int} {k : Nat} {e : Ev} (he : l[k]? = some e) (h1 : failedB e = false) (h2 : order.contains (k : Int) = false) (h3 : ∀ q a, q < order.length → order[q]? = some a → aheadE l k a = false) : mayNext l order k = true := by
  unfold mayNext
  simp only [he]
  rw [h1, h2]
  have hx : order.all (fun a => !aheadE l k a) = true := by
    rw [List.all_eq_true]
    intro a ha
    obtain ⟨q, hq, hqa⟩ := List.getElem_of_mem ha
    rw [h3 q a hq (by rw [List.getElem?_eq_getElem hq, hqa])]
    rfl
  rw [hx]
  rfl
theorem tryB_not {l : List Ev} {f : Nat} {S : Bd} {order : List Int} {k : Nat} {e : Ev} (he : l[k]? = some e) (h : (doesS S e).2 = false) : tryB l f S order k = none := by
  unfold tryB
  simp [he, h]
theorem tryB_deep {l : List Ev} {f : Nat} {S : Bd} {order : List Int} {k : Nat} {e : Ev} (he : l[k]? = some e) (hm : mayNext l order k = true) (h : (doesS S e).2 = true) : tryB l f S order k = tryS l f (doesS S e).1 (order ++ [(k : Int)]) := by
  unfold tryB
  simp [he, h, hm]

end Go.Proofs.YtkkflnmfghegnaaGreatDoor
