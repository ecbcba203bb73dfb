/-
  How one subscription of the document's blackboard is turned. Conditions: the document's blackboard in memory. How the document's blackboard is turned by Advertise and by a record more. Conditions: the document's blackboard in memory. The walk of the reference's push. Conditions: the document's blackboard in memory; queues that hold no more than they may. An append to a slice of one's own that begins behind its row's beginning, as a step of a walk. Conditions: none.
-/
import Derived.Test.YtclgmikdjcjjdaaGreatDoorBCopies
import Derived.Test.YtclgmikdjcjjdaaGreatDoorBRefS
import Derived.Deep.AppendLies
namespace Go.Proofs.YtclgmikdjcjjdaaGreatDoor
open Go.RowKit

theorem flatRs_set {f f' : Nat → Value} : ∀ (l : List Rs) (s i : Nat) (r r' : Rs) (j : Nat) (u : Value), l[i]? = some r → j < 6 → (rsL r (f (s + i))).set j u = rsL r' (f' (s + i)) → (∀ k, k ≠ s + i → f' k = f k) →
    (flatRs f s l).set (i * 6 + j) u = flatRs f' s (l.set i r')
  | [], s, i, r, r', j, u, hr, _, _, _ => by simp at hr
  | x :: l, s, 0, r, r', j, u, hr, hj, hs, hf => by
    simp at hr
    subst hr
    rw [Nat.add_zero] at hs hf
    rw [List.set_cons_zero, Nat.zero_mul, Nat.zero_add, flatRs, flatRs, List.set_append_left _ _ (by simp; omega), hs]
    rw [flatRs_congr (f := f) (g := f') l (s + 1) fun k _ => (hf _ (by omega)).symm]
  | x :: l, s, i + 1, r, r', j, u, hr, hj, hs, hf => by
    simp at hr
    rw [List.set_cons_succ, flatRs, flatRs, List.set_append_right _ _ (by simp; omega)]
    have e : (i + 1) * 6 + j - (rsL x (f s)).length = i * 6 + j := by simp; omega
    rw [e, flatRs_set l (s + 1) i r r' j u hr hj (by rw [show s + 1 + i = s + (i + 1) by omega]; exact hs) (fun k hk => hf k (by omega)), hf s (by omega)]

def RMem.setQ (m : RMem) (k i : Nat) (v : Value) : RMem := { m with q := fun k' i' => if k' = k ∧ i' = i then v else m.q k' i' }
def Rb.setSub (X : Rb) (k i : Nat) (r : Rs) : Rb := { X with subs := fun k' => if k' = k then (X.subs k).set i r else X.subs k' }

theorem IsRef.setSub {base : Nat} {w w2 : World} {lab : Nat → Option Lb} {m : RMem} {X : Rb} (h : IsRef base w lab m X) {k i g o cap j : Nat} {r r' : Rs} {v' u : Value} {row : Option Nat} (hk : k < X.tasks) (hr : (X.subs k)[i]? = some r) (hgrow : w.grownBy w2 row) (hrow : ∀ q, row = some q → (m.q k i).ownBlock = some q)
    (hown : OwnOff w2 base 36 v' r'.queue.length (natL r'.queue)) (hat : ∀ q, v'.ownBlock = some q → (m.q k i).ownBlock = some q ∨ w.heap.size ≤ q) (hsv : m.subsT k = .slice (some ⟨g, o, none⟩) (X.subs k).length cap) (hj : j < 6) (hset : (rsL r (m.q k i)).set j u = rsL r' v') :
    ∃ lab', IsRef base (w2.setCell ⟨g, o + i * 6 + j, none⟩ u) lab' (m.setQ k i v') (X.setSub k i r') ∧ RTurns w (w2.setCell ⟨g, o + i * 6 + j, none⟩ u) lab lab' := by
  have hil : i < (X.subs k).length := (List.getElem?_eq_some_iff.1 hr).1
  have hQ : refR m X (.q k i) = some ⟨true, 36, 1, m.q k i, r.queue.length, natL r.queue⟩ := by simp [refR, hk, hr]
  have hlab := (h.rows.row _ _ hQ).2
  have M1 := h.mid.set (L := .q k i) (w'' := w2) (row := row) (r' := ⟨true, 36, 1, v', r'.queue.length, natL r'.queue⟩) (by simp) hgrow (fun q hq => .inl (hlab q (hrow q hq))) hown (fun q hq => (hat q hq).imp (hlab q) id)
  have M2 := M1.cell (L := .subsT k) (ty := 87) (size := 6) (n := (X.subs k).length) (g := g) (o := o) (cap := cap) (xs := flatRs (m.q k) 0 (X.subs k)) (by rw [if_neg (by simp)]; simp [refR, hk, hsv]) (i * 6 + j) u
  rw [← Nat.add_assoc] at M2
  refine ⟨_, M2.close h (m' := m.setQ k i v') (X' := X.setSub k i r') (fun L => ?_) rfl rfl rfl rfl, M2.turns⟩
  cases L with
  | subsT k' =>
    by_cases e : k' = k
    · subst e
      rw [if_pos rfl]
      simp only [refR, RMem.setQ, Rb.setSub, if_pos hk, if_true, true_and, List.length_set, hsv]
      rw [flatRs_set (f := m.q k') (f' := fun i' => if i' = i then v' else m.q k' i') (X.subs k') 0 i r r' j u hr hj (by rw [Nat.zero_add, if_pos rfl]; exact hset) (fun a ha => if_neg (by omega))]
    · rw [if_neg (by simpa using e), if_neg (by simp)]
      have h1 : (fun i' => if k' = k ∧ i' = i then v' else m.q k' i') = m.q k' := funext fun i' => if_neg fun hc => e hc.1
      simp only [refR, RMem.setQ, Rb.setSub, if_neg e, h1]
  | q k' i' =>
    rw [if_neg (by simp)]
    by_cases e : k' = k ∧ i' = i
    · obtain ⟨rfl, rfl⟩ := e
      rw [if_pos rfl]
      simp only [refR, RMem.setQ, Rb.setSub, if_true, and_self, if_pos hk, List.getElem?_set_self hil]
      rfl
    · rw [if_neg (by intro hc; cases hc; exact e ⟨rfl, rfl⟩)]
      simp only [refR, RMem.setQ, Rb.setSub, if_neg e]
      by_cases ek : k' = k
      · subst ek
        have hii : i ≠ i' := fun hi => e ⟨rfl, hi.symm⟩
        rw [if_pos rfl, List.getElem?_set_ne hii]
      · rw [if_neg ek]
  | board => rw [if_neg (by simp), if_neg (by simp)]; rfl
  | recs => rw [if_neg (by simp), if_neg (by simp)]; rfl
  | mine => rw [if_neg (by simp), if_neg (by simp)]; rfl
  | subs => rw [if_neg (by simp), if_neg (by simp)]; rfl
  | rec_ _ => rw [if_neg (by simp), if_neg (by simp)]; rfl
  | word _ _ => rw [if_neg (by simp), if_neg (by simp)]; rfl
  | mineT _ => rw [if_neg (by simp), if_neg (by simp)]; rfl

end Go.Proofs.YtclgmikdjcjjdaaGreatDoor

namespace Go.Proofs.YtclgmikdjcjjdaaGreatDoor
open Go.RowKit

theorem range_setB {n i : Nat} (f : Nat → Bool) (v : Bool) : ((List.range n).map fun t => Value.bool (f t)).set i (.bool v) = (List.range n).map (fun k => Value.bool (if k = i then v else f k)) := by
  rw [range_set (fun t => Value.bool (f t)) (.bool v)]
  refine List.map_congr_left fun k _ => ?_
  split <;> rfl

def Rb.setMine (X : Rb) (k t : Nat) : Rb := { X with mine := fun k' t' => if k' = k ∧ t' = t then true else X.mine k' t' }

theorem IsRef.setMine {base : Nat} {w : World} {lab : Nat → Option Lb} {m : RMem} {X : Rb} (h : IsRef base w lab m X) {k t g o cap : Nat} (hk : k < X.tasks) (hsv : m.mineT k = .slice (some ⟨g, o, none⟩) X.tp.length cap) :
    IsRef base (w.setCell ⟨g, o + t, none⟩ (.bool true)) lab m (X.setMine k t) ∧ RTurns w (w.setCell ⟨g, o + t, none⟩ (.bool true)) lab lab := by
  have M1 := h.mid.cell (L := .mineT k) (ty := 4) (size := 1) (n := X.tp.length) (g := g) (o := o) (cap := cap) (xs := (List.range X.tp.length).map fun t => .bool (X.mine k t)) (by simp [refR, hk, hsv]) t (.bool true)
  refine ⟨M1.close h (m' := m) (X' := X.setMine k t) (fun L => ?_) rfl rfl rfl rfl, M1.turns⟩
  cases L with
  | mineT k' =>
    by_cases e : k' = k
    · subst e
      rw [if_pos rfl, range_setB]
      simp only [refR, Rb.setMine, if_pos hk, true_and, hsv]
    · rw [if_neg (by simpa using e)]
      have h1 : ∀ t', (if k' = k ∧ t' = t then true else X.mine k' t') = X.mine k' t' := fun t' => if_neg fun hc => e hc.1
      simp only [refR, Rb.setMine, h1]
  | board => rw [if_neg (by simp)]; rfl
  | recs => rw [if_neg (by simp)]; rfl
  | mine => rw [if_neg (by simp)]; rfl
  | subs => rw [if_neg (by simp)]; rfl
  | rec_ _ => rw [if_neg (by simp)]; rfl
  | word _ _ => rw [if_neg (by simp)]; rfl
  | subsT _ => rw [if_neg (by simp)]; rfl
  | q _ _ => rw [if_neg (by simp)]; rfl

def RMem.addRec (m : RMem) (t n : Nat) (v wv : Value) : RMem := { m with recT := fun t' => if t' = t then v else m.recT t', word := fun t' g => if t' = t ∧ g = n then wv else m.word t' g }
def Rb.addRec (X : Rb) (t : Nat) (ws : List Int) : Rb := { X with al := fun t' => if t' = t then X.al t ++ [ws] else X.al t' }

theorem IsRef.addRec {base : Nat} {w w1 wy w2 : World} {lab : Nat → Option Lb} {m : RMem} {X : Rb} (h : IsRef base w lab m X) {t n g cap b o c : Nat} {ws : List Int} {wv : Value} (ht : t < X.tp.length) (hn : n = (X.al t).length) (hb : Below w.heap.size w w1) (hw : w1.ownsRow w.heap.size 36 1 wv ws.length (u64V ws))
    (hb2 : Below w1.heap.size w1 wy) (hgrow : wy.grownBy w2 (m.recT t).ownBlock) (hown : w2.ownsRow base 39 1 (.slice (some ⟨g, 0, none⟩) (n + 1) cap) (n + 1) ((List.range n).map (m.word t) ++ [wv])) (hat : (m.recT t).ownBlock = some g ∨ g = wy.heap.size) (hsv : m.recs = .slice (some ⟨b, o, none⟩) X.tp.length c) :
    ∃ lab', IsRef base (w2.setCell ⟨b, o + t, none⟩ (.slice (some ⟨g, 0, none⟩) (n + 1) cap)) lab' (m.addRec t n (.slice (some ⟨g, 0, none⟩) (n + 1) cap) wv) (X.addRec t ws) ∧ RTurns w (w2.setCell ⟨b, o + t, none⟩ (.slice (some ⟨g, 0, none⟩) (n + 1) cap)) lab lab' := by
  have hbase : base ≤ w.heap.size := by have := h.rows.lt _ _ h.lbb; omega
  have hS : refR m X (.rec_ t) = some ⟨false, 39, 1, m.recT t, (X.al t).length, (List.range (X.al t).length).map (m.word t)⟩ := by simp [refR, ht]
  have hrow := h.rows.row _ _ hS
  have hlab := hrow.2
  have M1 := h.mid.set (L := .word t n) (w'' := w1) (row := none) (r' := ⟨false, 36, 1, wv, ws.length, u64V ws⟩) (by simp) ⟨hb.os, hb.tape, hb.output, hb.size, fun i hi _ => hb.block i hi⟩ (fun q hq => by cases hq) ⟨hw.1, hw.2.imp id fun ⟨g, cap, cur, h1, h2, h3⟩ => ⟨g, cap, cur, h1, Nat.le_trans hbase h2, h3⟩⟩ (fun q hq => .inr (hw.lt q hq).1)
  have hl1 : ∀ q, (m.recT t).ownBlock = some q → labNew lab w.heap.size wv (.word t n) q = some (.rec_ t) := fun q hq => by
    rw [labNew_old (hrow.1.lt hq).2]
    exact hlab q hq
  have M2 := (M1.on hb2).set (L := .rec_ t) (w'' := w2) (row := (m.recT t).ownBlock) (r' := ⟨false, 39, 1, .slice (some ⟨g, 0, none⟩) (n + 1) cap, n + 1, (List.range n).map (m.word t) ++ [wv]⟩) (by simp) hgrow (fun q hq => .inl (hl1 q hq)) hown (fun q hq => by
    cases hq
    rcases hat with h1 | h1
    · exact .inl (hl1 g h1)
    · exact .inr (show wy.heap.size ≤ g by omega))
  have M3 := M2.cell (L := .recs) (ty := 65) (size := 1) (n := X.tp.length) (g := b) (o := o) (cap := c) (xs := (List.range X.tp.length).map m.recT) (by simp [refR, hsv]) t (.slice (some ⟨g, 0, none⟩) (n + 1) cap)
  refine ⟨_, M3.close h (m' := m.addRec t n (.slice (some ⟨g, 0, none⟩) (n + 1) cap) wv) (X' := X.addRec t ws) (fun L => ?_) rfl rfl rfl rfl, M3.turns⟩
  cases L with
  | recs =>
    rw [if_pos rfl, range_set]
    simp only [refR, RMem.addRec, Rb.addRec, hsv]
  | rec_ t' =>
    rw [if_neg (by simp)]
    by_cases e : t' = t
    · subst e
      rw [if_pos rfl]
      simp only [refR, RMem.addRec, Rb.addRec, if_true, true_and, if_pos ht, List.length_append, List.length_singleton, ← hn, List.range_succ, List.map_append, List.map_cons, List.map_nil]
      have h1 : (List.range n).map (fun g => if g = n then wv else m.word t' g) = (List.range n).map (m.word t') := List.map_congr_left fun g hg => if_neg fun hc => by rw [hc] at hg; simp at hg
      rw [h1]
    · rw [if_neg (by simpa using e), if_neg (by simp)]
      have h1 : (fun g => if t' = t ∧ g = n then wv else m.word t' g) = m.word t' := funext fun g => if_neg fun hc => e hc.1
      simp only [refR, RMem.addRec, Rb.addRec, if_neg e, h1]
  | word t' g' =>
    rw [if_neg (by simp), if_neg (by simp)]
    by_cases e : t' = t ∧ g' = n
    · obtain ⟨rfl, rfl⟩ := e
      rw [if_pos rfl]
      simp only [refR, RMem.addRec, Rb.addRec, if_true, and_self]
      rw [if_pos ⟨ht, by simp; omega⟩, List.getD_eq_getElem?_getD, hn, List.getElem?_concat_length]
      rfl
    · rw [if_neg (by intro hc; cases hc; exact e ⟨rfl, rfl⟩)]
      simp only [refR, RMem.addRec, Rb.addRec, if_neg e]
      by_cases et : t' = t
      · subst et
        have hgn : g' ≠ n := fun hg => e ⟨rfl, hg⟩
        rw [if_pos rfl]
        by_cases hl : g' < (X.al t').length
        · rw [if_pos ⟨ht, by simp; omega⟩, if_pos ⟨ht, hl⟩]
          have h2 : (X.al t' ++ [ws]).getD g' [] = (X.al t').getD g' [] := by
            rw [List.getD_eq_getElem?_getD, List.getD_eq_getElem?_getD, List.getElem?_append_left hl]
          rw [h2]
        · rw [if_neg (by simp; omega), if_neg (by omega)]
      · rw [if_neg et]
  | board => rw [if_neg (by simp), if_neg (by simp), if_neg (by simp)]; rfl
  | mine => rw [if_neg (by simp), if_neg (by simp), if_neg (by simp)]; rfl
  | subs => rw [if_neg (by simp), if_neg (by simp), if_neg (by simp)]; rfl
  | mineT _ => rw [if_neg (by simp), if_neg (by simp), if_neg (by simp)]; rfl
  | subsT _ => rw [if_neg (by simp), if_neg (by simp), if_neg (by simp)]; rfl
  | q _ _ => rw [if_neg (by simp), if_neg (by simp), if_neg (by simp)]; rfl

end Go.Proofs.YtclgmikdjcjjdaaGreatDoor

namespace Go.Proofs.YtclgmikdjcjjdaaGreatDoor
open Go.RowKit

/-- Pushed into the first tasks' queues, and into the first ones of one task. -/
def Rb.pushed (X : Rb) (t gen k i : Nat) : Rb := { X with subs := fun k' => if k' < k then (X.subs k').map (pushR t gen) else if k' = k then ((X.subs k').take i).map (pushR t gen) ++ (X.subs k').drop i else X.subs k' }

theorem pushed_zero (X : Rb) (t gen : Nat) : X.pushed t gen 0 0 = X := by
  unfold Rb.pushed
  obtain ⟨a, b, c, d, e, f⟩ := X
  simp only [Rb.mk.injEq, true_and, and_true]
  funext k'
  rw [if_neg (by omega)]
  split <;> simp

theorem pushed_next (X : Rb) (t gen k : Nat) : X.pushed t gen k (X.subs k).length = X.pushed t gen (k + 1) 0 := by
  unfold Rb.pushed
  simp only [Rb.mk.injEq, true_and, and_true]
  funext k'
  by_cases h1 : k' < k
  · rw [if_pos h1, if_pos (by omega)]
  · rw [if_neg h1]
    by_cases h2 : k' = k
    · subst h2
      rw [if_pos rfl, if_pos (by omega)]
      simp
    · rw [if_neg h2, if_neg (by omega)]
      split <;> simp

theorem pushed_at (X : Rb) (t gen k i : Nat) : (X.pushed t gen k i).subs k = ((X.subs k).take i).map (pushR t gen) ++ (X.subs k).drop i := by
  show (if k < k then _ else if k = k then _ else _) = _
  rw [if_neg (by omega), if_pos rfl]

theorem pushed_len (X : Rb) (t gen k i : Nat) : ((X.pushed t gen k i).subs k).length = (X.subs k).length := by
  rw [pushed_at]
  simp
  omega

theorem pushed_get {X : Rb} {t gen k i : Nat} {r : Rs} (h : (X.subs k)[i]? = some r) : ((X.pushed t gen k i).subs k)[i]? = some r := by
  have hi : i < (X.subs k).length := (List.getElem?_eq_some_iff.1 h).1
  rw [pushed_at, List.getElem?_append_right (by simp; omega)]
  simp only [List.length_map, List.length_take, Nat.min_eq_left (Nat.le_of_lt hi), Nat.sub_self, List.getElem?_drop, Nat.add_zero]
  exact h

theorem pushed_set {X : Rb} {t gen k i : Nat} {r : Rs} (h : (X.subs k)[i]? = some r) : (X.pushed t gen k i).setSub k i (pushR t gen r) = X.pushed t gen k (i + 1) := by
  have hi : i < (X.subs k).length := (List.getElem?_eq_some_iff.1 h).1
  have h2 : ((X.subs k).take i).length = i := by simp; omega
  have h0 := pushed_at X t gen k i
  have h1 := pushed_at X t gen k (i + 1)
  unfold Rb.setSub
  rw [h0]
  have e : (((X.subs k).take i).map (pushR t gen) ++ (X.subs k).drop i).set i (pushR t gen r) = ((X.subs k).take (i + 1)).map (pushR t gen) ++ (X.subs k).drop (i + 1) := by
    rw [List.set_append_right _ _ (by simp; omega)]
    have hz : i - (((X.subs k).take i).map (pushR t gen)).length = 0 := by simp; omega
    rw [hz]
    have hd : (X.subs k).drop i = r :: (X.subs k).drop (i + 1) := by
      rw [List.drop_eq_getElem_cons hi]
      congr 1
      exact (List.getElem?_eq_some_iff.1 h).2
    rw [hd, List.set_cons_zero, List.take_add_one, h, List.map_append]
    simp
  rw [e]
  unfold Rb.pushed
  simp only [Rb.mk.injEq, true_and, and_true]
  funext k'
  by_cases ek : k' = k
  · subst ek
    rw [if_pos rfl, if_neg (by omega), if_pos rfl]
  · rw [if_neg ek, if_neg ek, if_neg ek]

theorem set_set {X : Rb} {k i : Nat} {r r' : Rs} : (X.setSub k i r).setSub k i r' = X.setSub k i r' := by
  unfold Rb.setSub
  simp only [Rb.mk.injEq, true_and, and_true, if_true, List.set_set]
  funext k'
  split <;> simp_all

theorem pushed_keep {X : Rb} {t gen k i : Nat} {r : Rs} (h : (X.subs k)[i]? = some r) (hne : r.topic ≠ t) : X.pushed t gen k (i + 1) = X.pushed t gen k i := by
  rw [← pushed_set h]
  unfold Rb.setSub
  have hp : pushR t gen r = r := if_neg hne
  rw [hp]
  have hl : ((X.pushed t gen k i).subs k).set i r = (X.pushed t gen k i).subs k := by
    refine List.ext_getElem? fun j => ?_
    rw [List.getElem?_set]
    split
    · rename_i e
      subst e
      rw [pushed_get h, if_pos (by rw [pushed_len]; exact (List.getElem?_eq_some_iff.1 h).1)]
    · rfl
  rw [hl]
  obtain ⟨a, b, c, d, e, f⟩ := X.pushed t gen k i
  simp only [Rb.mk.injEq, true_and, and_true]
  funext k'
  split
  · rename_i e; rw [e]
  · rfl

theorem pushed_all {X : Rb} {t gen n : Nat} (hn : n = X.tasks) (ho : ∀ k, X.tasks ≤ k → X.subs k = []) : X.pushed t gen n 0 = { X with subs := fun k => (X.subs k).map (pushR t gen) } := by
  subst hn
  unfold Rb.pushed
  simp only [Rb.mk.injEq, true_and, and_true]
  funext k'
  by_cases h1 : k' < X.tasks
  · rw [if_pos h1]
  · rw [if_neg h1, ho k' (by omega)]
    split <;> rfl

end Go.Proofs.YtclgmikdjcjjdaaGreatDoor

namespace Go.Proofs.YtclgmikdjcjjdaaGreatDoor
open Go.RowKit

theorem info_u64q : (Tryz.prog.info? 36).map (fun i => (i.zero, i.size, i.bytes)) = some (some (.int .u64 0), 1, 8) := by kernel_rfl
theorem und_u64q : Tryz.prog.underlying 39 = some (.slice 36) := by kernel_rfl

theorem wpList_append_q {ops : Array Oper} {rest : List Oper} {o : Oper} {a : Act} {w : World} {Q : Exit → Act → World → Prop} (hgd : o.guard = none) (s x : Operand)
    (ho : o.op = .call { callee := .builtin .append, args := #[s, x], argTypes := #[39, 39] })
    (base : Nat) (v : Value) (n : Nat) (xs : List Value) (hs : a.eval s = v) (hown : OwnOff w base 36 v n xs)
    (ad : Addr) (c : Nat) (u : Value) (hx : a.eval x = .slice (some ad) 1 c) (hu : w.cell? ad = some u) (h1 : u.oneCell' = true)
    (h63 : n + 1 ≤ 100000) (hbase : base ≤ w.heap.size)
    (h : ∀ v' w', OwnOff w' base 36 v' (n + 1) (xs ++ [u]) → w.grownBy w' v.ownBlock → (v'.ownBlock = v.ownBlock ∨ ∀ q, v'.ownBlock = some q → w.heap.size ≤ q) → wpList Tryz.prog ops Q rest (a.put o.dst v') w') : wpList Tryz.prog ops Q (o :: rest) a w := by
  obtain ⟨i0, hi, hz0, hz1, hz2⟩ := info_parts info_u64q
  obtain ⟨v', w', hr, h2, h3, h4⟩ := append_off (P := Tryz.prog) w base 39 o.type 36 i0 _ 8 und_u64q hi hz0 hz1 hz2 rfl v n xs hown ad c u hu h1 h63 (by omega) hbase
  refine wpList_plain hgd fun _ hK => ?_
  unfold Oper.wp execOp
  simp only [ho, resolve, invoke, builtin, Sem.run_bind, Sem.run_pure, Result.andThen_ok, List.map_toArray, List.map_cons, List.map_nil, hs, hx, hr]
  exact hK _ _ (h v' w' h2 h3 h4)

/-- A subscription's cells. -/
theorem IsRef.subAt {base : Nat} {w : World} {lab : Nat → Option Lb} {m : RMem} {X : Rb} (h : IsRef base w lab m X) {k j : Nat} {r : Rs} (hk : k < X.tasks) (hr : (X.subs k)[j]? = some r) :
    ∃ b cap, m.subsT k = .slice (some ⟨b, 0, none⟩) (X.subs k).length cap ∧ (X.subs k).length ≤ cap ∧ cap ≤ maxLen ∧ b < w.heap.size ∧ lab b = some (.subsT k) ∧ (∀ i, w.frozen? ⟨b, i, none⟩ = false) ∧ ∀ jj u, (rsL r (m.q k j))[jj]? = some u → w.cell? ⟨b, j * 6 + jj, none⟩ = some u := by
  have hS : refR m X (.subsT k) = some ⟨false, 87, 6, m.subsT k, (X.subs k).length, flatRs (m.q k) 0 (X.subs k)⟩ := by simp [refR, hk]
  obtain ⟨h1, h2⟩ := h.rows.row _ _ hS
  unfold RowAt at h1
  rw [if_neg (by simp)] at h1
  have hjl : j < (X.subs k).length := (List.getElem?_eq_some_iff.1 hr).1
  rcases h1.2 with ⟨-, h0⟩ | ⟨g, cap, cur, hv, hb, hg, n1, n2, n3, n4⟩
  · simp only at h0; omega
  · simp only at hv hg n1 n3 n4
    refine ⟨g, cap, hv, n1, n2, block_lt hg, h2 g (by simp only [hv]; rfl), frozen_of hg, fun jj u hu => ?_⟩
    have hjj : jj < 6 := (List.getElem?_eq_some_iff.1 hu).1
    have hf := flatRs_at (m.q k) (X.subs k) 0 j r hr jj u (by rw [Nat.zero_add]; exact hu)
    rw [cell_of hg, ← Array.getElem?_toList]
    rw [← n4, List.getElem?_take_of_lt (by omega)] at hf
    exact hf

theorem IsRef.setSub0 {base : Nat} {w w2 : World} {lab : Nat → Option Lb} {m : RMem} {X : Rb} (h : IsRef base w lab m X) {k i g cap j : Nat} {r r' : Rs} {v' u : Value} {row : Option Nat} (hk : k < X.tasks) (hr : (X.subs k)[i]? = some r) (hgrow : w.grownBy w2 row) (hrow : ∀ q, row = some q → (m.q k i).ownBlock = some q)
    (hown : OwnOff w2 base 36 v' r'.queue.length (natL r'.queue)) (hat : ∀ q, v'.ownBlock = some q → (m.q k i).ownBlock = some q ∨ w.heap.size ≤ q) (hsv : m.subsT k = .slice (some ⟨g, 0, none⟩) (X.subs k).length cap) (hj : j < 6) (hset : (rsL r (m.q k i)).set j u = rsL r' v') :
    ∃ lab', IsRef base (w2.setCell ⟨g, i * 6 + j, none⟩ u) lab' (m.setQ k i v') (X.setSub k i r') ∧ RTurns w (w2.setCell ⟨g, i * 6 + j, none⟩ u) lab lab' := by
  have := h.setSub hk hr hgrow hrow hown hat hsv hj hset
  rw [Nat.zero_add] at this
  exact this

theorem setSub_at {X : Rb} {k i : Nat} {r r' : Rs} (h : (X.subs k)[i]? = some r) : ((X.setSub k i r').subs k)[i]? = some r' := by
  have hi : i < (X.subs k).length := (List.getElem?_eq_some_iff.1 h).1
  unfold Rb.setSub
  simp only [if_true]
  exact List.getElem?_set_self hi
theorem setSub_len {X : Rb} {k i : Nat} {r' : Rs} : ((X.setSub k i r').subs k).length = (X.subs k).length := by
  unfold Rb.setSub
  simp only [if_true, List.length_set]
theorem setQ_at (m : RMem) (k i : Nat) (v : Value) : (m.setQ k i v).q k i = v := by
  unfold RMem.setQ
  simp

end Go.Proofs.YtclgmikdjcjjdaaGreatDoor
