/-
  maps.Clone at the board's two maps; a clone of a row of words. Conditions: none. A blackboard that is being cloned: what lies in memory meanwhile. Conditions: none.
-/
import Derived.Test.YtkkflnmfghegnaaGreatDoorShelf
import Derived.Test.YtkkflnmfghegnaaGreatDoorBHas
import Derived.Shelf.SlMaps.Clone
import Derived.Test.YtkkflnmfghegnaaGreatDoorBSubs
namespace Go.Proofs.YtkkflnmfghegnaaGreatDoor
open Go.RowKit

def mcRecs_ren : Go.Shelf.Ren := ⟨fun | 5 => 74 | 7 => 104 | n => n, fun | 4 => 4 | 20 => 20 | 23 => 111 | 25 => 117 | 3 => 28 | n => n, fun | n => n⟩
theorem mcRecs : Go.Proofs.SlLaysW.n5 Tryz.prog mcRecs_ren := {
  mixed := by kernel_rfl
  f5 := ⟨Tryz.f74.name, by decide, Tryz.func74.trans (congrArg some (by kernel_rfl))⟩
  f7 := Tryz.func104.trans (congrArg some (by kernel_rfl))
  t4 := Tryz.underlying4
  a4 := Tryz.isAgg4
  z4 := Tryz.sizeOf4
  v4 := Tryz.zeroValue4
  t20 := Tryz.underlying20
  a20 := Tryz.isAgg20
  z20 := Tryz.sizeOf20
  v20 := Tryz.zeroValue20
  t23 := Tryz.underlying111
  a23 := Tryz.isAgg111
  z23 := Tryz.sizeOf111
  v23 := Tryz.zeroValue111 }

def mcOwns_ren : Go.Shelf.Ren := ⟨fun | 5 => 76 | 7 => 104 | n => n, fun | 4 => 4 | 20 => 20 | 23 => 112 | 25 => 117 | 3 => 3 | n => n, fun | n => n⟩
theorem mcOwns : Go.Proofs.SlLaysW.n5 Tryz.prog mcOwns_ren := {
  mixed := by kernel_rfl
  f5 := ⟨Tryz.f76.name, by decide, Tryz.func76.trans (congrArg some (by kernel_rfl))⟩
  f7 := Tryz.func104.trans (congrArg some (by kernel_rfl))
  t4 := Tryz.underlying4
  a4 := Tryz.isAgg4
  z4 := Tryz.sizeOf4
  v4 := Tryz.zeroValue4
  t20 := Tryz.underlying20
  a20 := Tryz.isAgg20
  z20 := Tryz.sizeOf20
  v20 := Tryz.zeroValue20
  t23 := Tryz.underlying112
  a23 := Tryz.isAgg112
  z23 := Tryz.sizeOf112
  v23 := Tryz.zeroValue112 }

/-- A map that is cloned. -/
theorem clone_recs {w : World} {b n : Nat} {f : Nat → Nat → Option Value} (h : MapIs w b n f) :
    Calls Tryz.prog 74 #[.map (some b)] w fun e w' => e = .returned (.map (some w.heap.size)) ∧ Below w.heap.size w w' ∧ w.heap.size < w'.heap.size ∧ MapIs w' w.heap.size n f := by
  obtain ⟨D, hown, hf⟩ := h
  refine (AnyW.maps_Clone_owns mcRecs 117 rawR b n D w hown).mono ?_
  rintro e w' ⟨he, h1, -, hb⟩
  exact ⟨he, hb, h1.lt, D, h1, hf⟩

theorem clone_owns {w : World} {b n : Nat} {f : Nat → Nat → Option Value} (h : MapIs w b n f) :
    Calls Tryz.prog 76 #[.map (some b)] w fun e w' => e = .returned (.map (some w.heap.size)) ∧ Below w.heap.size w w' ∧ w.heap.size < w'.heap.size ∧ MapIs w' w.heap.size n f := by
  obtain ⟨D, hown, hf⟩ := h
  refine (AnyW.maps_Clone_owns mcOwns 117 rawR b n D w hown).mono ?_
  rintro e w' ⟨he, h1, -, hb⟩
  exact ⟨he, hb, h1.lt, D, h1, hf⟩

theorem one_u64s {xs : List Value} (h : ∃ l : List Int, xs = u64V l) : ∀ u ∈ xs, u.oneCell' = true := by
  obtain ⟨l, rfl⟩ := h
  intro u hu
  obtain ⟨z, -, rfl⟩ := List.mem_map.1 hu
  rfl

/-- A clone of a row of words that is there. -/
theorem clone_words (v : Value) (l : List Int) (w : World) (h0 : 0 < l.length) (h1 : l.length ≤ 1000) (hr : Rd w v 1 l.length (u64V l)) :
    Calls Tryz.prog 75 #[v] w fun e w' => ∃ v', e = .returned v' ∧ w'.ownsRow w.heap.size 32 1 v' l.length (u64V l) ∧ Below w.heap.size w w' := by
  obtain ⟨i0, hi, hz0, hz1, hz2⟩ := info_parts info_u64
  obtain ⟨b, o, c', rfl, h1', h2, hb, hc⟩ := hr.open_ h0
  refine (Tryz.slices_Clone i0 _ 1 8 hi hz0 hz1 hz2 rfl (by omega) info_u64_size b o l.length c' (u64V l) w (by simp) (by unfold maxLen; omega) (by omega) hc (one_u64s ⟨l, rfl⟩)).mono ?_
  rintro e w' ⟨v', rfl, hown, -, hbel⟩
  exact ⟨v', rfl, hown, hbel⟩

end Go.Proofs.YtkkflnmfghegnaaGreatDoor

namespace Go.Proofs.YtkkflnmfghegnaaGreatDoor
open Go.RowKit

theorem clone_nats (v : Value) (l : List Nat) (w : World) (h0 : 0 < l.length) (h1 : l.length ≤ 1000) (hr : Rd w v 1 l.length (natL l)) :
    Calls Tryz.prog 75 #[v] w fun e w' => ∃ v', e = .returned v' ∧ w'.ownsRow w.heap.size 32 1 v' l.length (natL l) ∧ Below w.heap.size w w' := by
  have e : natL l = u64V (l.map fun n : Nat => (n : Int)) := by simp [natL, u64V]
  have hl : (l.map fun n : Nat => (n : Int)).length = l.length := by simp
  have := clone_words v (l.map fun n : Nat => (n : Int)) w (by omega) (by omega) (by rw [hl, ← e]; exact hr)
  rw [hl, ← e] at this
  exact this

theorem own_low {w : World} {base : Nat} {e : TypeId} {size : Nat} {v : Value} {n : Nat} {xs : List Value} (h : w.ownsRow base e size v n xs) : w.ownsRow 0 e size v n xs :=
  ⟨h.1, h.2.imp id fun ⟨g, cap, cur, hv, _, rest⟩ => ⟨g, cap, cur, hv, Nat.zero_le _, rest⟩⟩

/-- The blocks of a blackboard that is being made: the rows 'done' are there. -/
structure Cln (k : Nat) (w wr : World) (m : Mem) (S : Bd) (B rb gb gc ob sb q0 : Nat) (done : List Value) : Prop where
  below : Below w.heap.size w wr
  lo : w.heap.size ≤ B ∧ w.heap.size ≤ rb ∧ w.heap.size ≤ gb ∧ w.heap.size ≤ ob ∧ w.heap.size ≤ sb
  hi : B < q0 ∧ rb < q0 ∧ gb < q0 ∧ ob < q0 ∧ sb < q0 ∧ q0 ≤ wr.heap.size
  nd : [B, rb, gb, ob, sb].Nodup
  blk : wr.heap[B]? = some (.cells #[.int .i64 S.tasks, m.tv, .int .i64 S.tries, .int .i64 S.log, .map (some rb), .slice (some ⟨gb, 0, none⟩) S.gens.length gc, .map (some ob), .slice (some ⟨sb, 0, none⟩) S.tasks S.tasks,
    .int .i64 S.st.mode, .int .i64 S.st.source, .bool S.st.hold, .int .i64 S.st.flags, .int .u64 S.st.epoch] 115)
  gens : wr.ownsRow 0 32 1 (.slice (some ⟨gb, 0, none⟩) S.gens.length gc) S.gens.length (natL S.gens)
  recs : MapIs wr rb (64 + k) m.rv
  owns : MapIs wr ob k (fun t g => if g = 0 ∧ S.own t ≠ 0 then some (.int .i64 (S.own t)) else none)
  subs : wr.heap[sb]? = some (.cells (done ++ List.replicate (S.tasks - done.length) nilS).toArray 130)
  dlen : done.length ≤ S.tasks
  rows : ∀ (t : Nat) (v : Value) (l : List Sb), done[t]? = some v → S.subs[t]? = some l → wr.ownsRow 0 135 6 v l.length (flatSb l)
  rown : ∀ v ∈ done, ∀ q, v.ownBlock = some q → q0 ≤ q ∧ q < wr.heap.size
  rdis : ∀ (i j : Nat) (v u : Value), done[i]? = some v → done[j]? = some u → i ≠ j → ∀ q, v.ownBlock = some q → u.ownBlock ≠ some q

section
variable {k : Nat} {w wr wc : World} {m : Mem} {S : Bd} {B rb gb gc ob sb q0 : Nat} {done : List Value}

theorem Cln.keep (h : Cln k w wr m S B rb gb gc ob sb q0 done) (hb : Below wr.heap.size wr wc) : Cln k w wc m S B rb gb gc ob sb q0 done where
  below := below2 h.below hb
  lo := h.lo
  hi := ⟨h.hi.1, h.hi.2.1, h.hi.2.2.1, h.hi.2.2.2.1, h.hi.2.2.2.2.1, Nat.le_trans h.hi.2.2.2.2.2 hb.size⟩
  nd := h.nd
  blk := (hb.block _ (block_lt h.blk)).trans h.blk
  gens := own_keepAt h.gens (fun q hq => by
    have e : q = gb := by cases hq; rfl
    subst e
    exact hb.block _ (by have := h.hi; omega))
  recs := h.recs.keep (hb.block _ (by have := h.hi; omega))
  owns := h.owns.keep (hb.block _ (by have := h.hi; omega))
  subs := (hb.block _ (block_lt h.subs)).trans h.subs
  dlen := h.dlen
  rows := fun t v l hv hl => own_keepAt (h.rows t v l hv hl) (fun q hq => hb.block _ (h.rown v (List.mem_of_getElem? hv) q hq).2)
  rown := fun v hv q hq => ⟨(h.rown v hv q hq).1, Nat.lt_of_lt_of_le (h.rown v hv q hq).2 hb.size⟩
  rdis := h.rdis

theorem set_rows (done : List Value) (n : Nat) (v : Value) (h : done.length < n) : (done ++ List.replicate (n - done.length) nilS).toArray.setIfInBounds done.length v = ((done ++ [v]) ++ List.replicate (n - (done ++ [v]).length) nilS).toArray := by
  obtain ⟨r, hr⟩ : ∃ r, n - done.length = r + 1 := ⟨n - done.length - 1, by omega⟩
  have hr' : n - (done ++ [v]).length = r := by simp; omega
  rw [hr, hr', List.setIfInBounds_toArray, List.replicate_succ]
  congr 1
  rw [List.set_append_right _ _ (Nat.le_refl _)]
  simp

theorem Cln.step (h0 : Cln k w wr m S B rb gb gc ob sb q0 done) (hb : Below wr.heap.size wr wc) (v : Value) (l : List Sb) (hl : S.subs[done.length]? = some l) (hown : wc.ownsRow wr.heap.size 135 6 v l.length (flatSb l)) (hlt : done.length < S.tasks) :
    Cln k w (wc.setCell ⟨sb, done.length, none⟩ v) m S B rb gb gc ob sb q0 (done ++ [v]) := by
  have h := h0.keep hb
  have hQ : q0 ≤ wr.heap.size := h0.hi.2.2.2.2.2
  have hsz : (wc.setCell ⟨sb, done.length, none⟩ v).heap.size = wc.heap.size := by simp
  have hne : ∀ i, i ≠ sb → (wc.setCell ⟨sb, done.length, none⟩ v).heap[i]? = wc.heap[i]? := fun i hi => Below.heap_setCell wc ⟨sb, done.length, none⟩ _ _ hi
  have hnd := h.nd
  simp only [List.nodup_cons, List.mem_cons, List.not_mem_nil, or_false, not_or] at hnd
  obtain ⟨⟨-, -, -, n1⟩, ⟨-, -, n2⟩, ⟨-, n3⟩, n4, -⟩ := hnd
  have hrs : ∀ q, q0 ≤ q → q ≠ sb := fun q hq => by have := h.hi; omega
  refine ⟨h.below.setCell (p := ⟨sb, done.length, none⟩) h.lo.2.2.2.2 _, h.lo, ⟨h.hi.1, h.hi.2.1, h.hi.2.2.1, h.hi.2.2.2.1, h.hi.2.2.2.2.1, by rw [hsz]; exact h.hi.2.2.2.2.2⟩, h.nd, (hne _ n1).trans h.blk, own_keepAt h.gens (fun q hq => by cases hq; exact hne _ n3), h.recs.keep (hne _ n2), h.owns.keep (hne _ n4), ?_, by simp; omega, ?_, ?_, ?_⟩
  · have := heap_setCell_same wc sb done.length _ _ v h.subs
    rw [this]
    congr 2
    exact set_rows done S.tasks v hlt
  · intro t u l' hu hl'
    by_cases ht : t < done.length
    · rw [List.getElem?_append_left ht] at hu
      exact own_keepAt (h.rows t u l' hu hl') (fun q hq => hne _ (hrs q (h.rown u (List.mem_of_getElem? hu) q hq).1))
    · have ht2 : t = done.length := by
        have := (List.getElem?_eq_some_iff.1 hu).1
        simp at this
        omega
      subst ht2
      rw [List.getElem?_append_right (Nat.le_refl _)] at hu
      simp at hu
      subst hu
      rw [hl] at hl'
      cases hl'
      exact own_keepAt (own_low hown) (fun q hq => hne _ (hrs q (Nat.le_trans hQ (hown.lt q hq).1)))
  · intro u hu q hqu
    rw [hsz]
    rcases List.mem_append.1 hu with h1 | h1
    · exact h.rown u h1 q hqu
    · rw [List.mem_singleton] at h1
      subst h1
      exact ⟨Nat.le_trans hQ (hown.lt q hqu).1, (hown.lt q hqu).2⟩
  · have hnew : ∀ (i : Nat) (u : Value), done[i]? = some u → ∀ q, u.ownBlock = some q → v.ownBlock ≠ some q := fun i u hu q hqu hv => by
      have h1 := (h0.rown u (List.mem_of_getElem? hu) q hqu).2
      have h2 := (hown.lt q hv).1
      omega
    intro i j a b ha hb' hij q hqa hqb
    by_cases hi : i < done.length
    · rw [List.getElem?_append_left hi] at ha
      by_cases hj : j < done.length
      · rw [List.getElem?_append_left hj] at hb'
        exact h.rdis i j a b ha hb' hij q hqa hqb
      · have hj2 : j = done.length := by
          have := (List.getElem?_eq_some_iff.1 hb').1
          simp at this
          omega
        subst hj2
        rw [List.getElem?_append_right (Nat.le_refl _)] at hb'
        simp at hb'
        subst hb'
        exact hnew i a ha q hqa hqb
    · have hi2 : i = done.length := by
        have := (List.getElem?_eq_some_iff.1 ha).1
        simp at this
        omega
      subst hi2
      rw [List.getElem?_append_right (Nat.le_refl _)] at ha
      simp at ha
      subst ha
      have hj : j < done.length := by
        have := (List.getElem?_eq_some_iff.1 hb').1
        simp at this
        omega
      rw [List.getElem?_append_left hj] at hb'
      exact hnew j b hb' q hqb hqa

/-- The clone is there. -/
theorem Cln.fin (h : IsBd k w m S) (c : Cln k w wr m S B rb gb gc ob sb q0 done) (hd : done.length = S.tasks) : IsBd k wr ⟨B, rb, gb, gc, ob, sb, m.tv, done, m.rv⟩ S where
  inv := h.inv
  kk := h.kk
  blk := c.blk
  gens := c.gens
  recs := c.recs
  owns := c.owns
  subs := by
    have := c.subs
    rw [hd, Nat.sub_self] at this
    simpa using this
  rlen := hd
  rows := c.rows
  topics := h.topics.below c.below
  rd := fun t g v hv => by
    obtain ⟨ws, h1, h2⟩ := h.rd t g v hv
    exact ⟨ws, h1, h2.below c.below⟩
  rn := h.rn
  nd := c.nd
  rown := fun v hv q hq => by
    have h1 := (c.rown v hv q hq).1
    have h2 := c.hi
    refine ⟨?_, ?_, ?_, ?_, ?_⟩ <;> (simp only; omega)
  rdis := c.rdis
  disj := fun i hi hr => by
    have h1 : m.ro i := hr
    have h2 := h.lt i (.inr h1)
    have h3 := c.lo
    have h4 := c.hi
    have h5 := c.below.size
    have h6 : w.heap.size ≤ i := by
      rcases hi with e | e | e | e | e | ⟨v, hv, hq⟩
      · simp only at e; omega
      · simp only at e; omega
      · simp only at e; omega
      · simp only at e; omega
      · simp only at e; omega
      · have := (c.rown v hv i hq).1; omega
    omega
  lt := fun i hi => by
    have h3 := c.hi
    have h5 := c.below.size
    rcases hi with (e | e | e | e | e | ⟨v, hv, hq⟩) | hr
    · simp only at e; omega
    · simp only at e; omega
    · simp only at e; omega
    · simp only at e; omega
    · simp only at e; omega
    · exact (c.rown v hv i hq).2
    · have h1 : m.ro i := hr
      have := h.lt i (.inr h1)
      omega

theorem Cln.own_ge (c : Cln k w wr m S B rb gb gc ob sb q0 done) {tv : Value} {rv : Nat → Nat → Option Value} : ∀ i, (⟨B, rb, gb, gc, ob, sb, tv, done, rv⟩ : Mem).own i → w.heap.size ≤ i := fun i hi => by
  have h3 := c.lo
  have h4 := c.hi
  rcases hi with e | e | e | e | e | ⟨v, hv, hq⟩
  · simp only at e; omega
  · simp only at e; omega
  · simp only at e; omega
  · simp only at e; omega
  · simp only at e; omega
  · have := (c.rown v hv i hq).1; omega

theorem own_pos {w : World} {base : Nat} {e : TypeId} {size : Nat} {v : Value} {n : Nat} {xs : List Value} (h : w.ownsRow base e size v n xs) (hn : 0 < n) : ∃ g c, v = .slice (some ⟨g, 0, none⟩) n c ∧ base ≤ g ∧ g < w.heap.size := by
  obtain ⟨b, o, c, hv, -, -, -, -⟩ := (Rd.of_own h).open_ hn
  rcases h.2 with ⟨h1, h2⟩ | ⟨g, cap, cur, h1, -⟩
  · omega
  · have hq := h.lt g (by rw [h1]; rfl)
    exact ⟨g, cap, h1, hq.1, hq.2⟩

end

end Go.Proofs.YtkkflnmfghegnaaGreatDoor
