/-
  maps.Clone at the board's two maps; a clone of a row of words. Conditions: none. A blackboard that is being cloned: what lies in memory meanwhile. Conditions: none. The walks of the blackboard's Clone and Record, and of the methods of none. Conditions: a blackboard in memory.
-/
import Derived.Test.YtkkflnmfghegnaaGreatDoorShelf
import Derived.Test.YtkkflnmfghegnaaGreatDoorBHas
import Derived.Shelf.SlMaps.Clone
import Derived.Test.YtkkflnmfghegnaaGreatDoorLOpenA
import Derived.Test.YtkkflnmfghegnaaGreatDoorBPlay
import Derived.Deep.Cut
import Derived.Deep.RegionHeld3
namespace Go.Proofs.YtkkflnmfghegnaaGreatDoor
open Go.RowKit

def mcRecs_ren : Go.Shelf.Ren := ⟨fun | 5 => 74 | 7 => 104 | n => n, fun | 4 => 4 | 20 => 20 | 23 => 111 | 25 => 117 | 3 => 28 | n => n, fun | n => n⟩
theorem mcRecs : Go.Proofs.SlLaysW.n5 Tryz.prog mcRecs_ren := {
  mixed := by kernel_rfl
  f5 := ⟨Tryz.f74.name, by decide, Tryz.func74.trans (congrArg some (by kernel_rfl))⟩
  f7 := Tryz.func104.trans (congrArg some (by kernel_rfl))
  t4 := Tryz.underlying4
  a4 := Tryz.isAgg4
  z4 := Tryz.sizeOf4
  v4 := Tryz.zeroValue4
  t20 := Tryz.underlying20
  a20 := Tryz.isAgg20
  z20 := Tryz.sizeOf20
  v20 := Tryz.zeroValue20
  t23 := Tryz.underlying111
  a23 := Tryz.isAgg111
  z23 := Tryz.sizeOf111
  v23 := Tryz.zeroValue111 }

def mcOwns_ren : Go.Shelf.Ren := ⟨fun | 5 => 76 | 7 => 104 | n => n, fun | 4 => 4 | 20 => 20 | 23 => 112 | 25 => 117 | 3 => 3 | n => n, fun | n => n⟩
theorem mcOwns : Go.Proofs.SlLaysW.n5 Tryz.prog mcOwns_ren := {
  mixed := by kernel_rfl
  f5 := ⟨Tryz.f76.name, by decide, Tryz.func76.trans (congrArg some (by kernel_rfl))⟩
  f7 := Tryz.func104.trans (congrArg some (by kernel_rfl))
  t4 := Tryz.underlying4
  a4 := Tryz.isAgg4
  z4 := Tryz.sizeOf4
  v4 := Tryz.zeroValue4
  t20 := Tryz.underlying20
  a20 := Tryz.isAgg20
  z20 := Tryz.sizeOf20
  v20 := Tryz.zeroValue20
  t23 := Tryz.underlying112
  a23 := Tryz.isAgg112
  z23 := Tryz.sizeOf112
  v23 := Tryz.zeroValue112 }

/-- A map that is cloned. -/
theorem clone_recs {w : World} {b n : Nat} {f : Nat → Nat → Option Value} (h : MapIs w b n f) :
    Calls Tryz.prog 74 #[.map (some b)] w fun e w' => e = .returned (.map (some w.heap.size)) ∧ Below w.heap.size w w' ∧ w.heap.size < w'.heap.size ∧ MapIs w' w.heap.size n f := by
  obtain ⟨D, hown, hf⟩ := h
  refine (AnyW.maps_Clone_owns mcRecs 117 rawR b n D w hown).mono ?_
  rintro e w' ⟨he, h1, -, hb⟩
  exact ⟨he, hb, h1.lt, D, h1, hf⟩

theorem clone_owns {w : World} {b n : Nat} {f : Nat → Nat → Option Value} (h : MapIs w b n f) :
    Calls Tryz.prog 76 #[.map (some b)] w fun e w' => e = .returned (.map (some w.heap.size)) ∧ Below w.heap.size w w' ∧ w.heap.size < w'.heap.size ∧ MapIs w' w.heap.size n f := by
  obtain ⟨D, hown, hf⟩ := h
  refine (AnyW.maps_Clone_owns mcOwns 117 rawR b n D w hown).mono ?_
  rintro e w' ⟨he, h1, -, hb⟩
  exact ⟨he, hb, h1.lt, D, h1, hf⟩

theorem one_u64s {xs : List Value} (h : ∃ l : List Int, xs = u64V l) : ∀ u ∈ xs, u.oneCell' = true := by
  obtain ⟨l, rfl⟩ := h
  intro u hu
  obtain ⟨z, -, rfl⟩ := List.mem_map.1 hu
  rfl

/-- A clone of a row of words that is there. -/
theorem clone_words (v : Value) (l : List Int) (w : World) (h0 : 0 < l.length) (h1 : l.length ≤ 1000) (hr : Rd w v 1 l.length (u64V l)) :
    Calls Tryz.prog 75 #[v] w fun e w' => ∃ v', e = .returned v' ∧ w'.ownsRow w.heap.size 32 1 v' l.length (u64V l) ∧ Below w.heap.size w w' := by
  obtain ⟨i0, hi, hz0, hz1, hz2⟩ := info_parts info_u64
  obtain ⟨b, o, c', rfl, h1', h2, hb, hc⟩ := hr.open_ h0
  refine (Tryz.slices_Clone i0 _ 1 8 hi hz0 hz1 hz2 rfl (by omega) info_u64_size b o l.length c' (u64V l) w (by simp) (by unfold maxLen; omega) (by omega) hc (one_u64s ⟨l, rfl⟩)).mono ?_
  rintro e w' ⟨v', rfl, hown, -, hbel⟩
  exact ⟨v', rfl, hown, hbel⟩

end Go.Proofs.YtkkflnmfghegnaaGreatDoor

namespace Go.Proofs.YtkkflnmfghegnaaGreatDoor
open Go.RowKit

theorem clone_nats (v : Value) (l : List Nat) (w : World) (h0 : 0 < l.length) (h1 : l.length ≤ 1000) (hr : Rd w v 1 l.length (natL l)) :
    Calls Tryz.prog 75 #[v] w fun e w' => ∃ v', e = .returned v' ∧ w'.ownsRow w.heap.size 32 1 v' l.length (natL l) ∧ Below w.heap.size w w' := by
  have e : natL l = u64V (l.map fun n : Nat => (n : Int)) := by simp [natL, u64V]
  have hl : (l.map fun n : Nat => (n : Int)).length = l.length := by simp
  have := clone_words v (l.map fun n : Nat => (n : Int)) w (by omega) (by omega) (by rw [hl, ← e]; exact hr)
  rw [hl, ← e] at this
  exact this

theorem own_low {w : World} {base : Nat} {e : TypeId} {size : Nat} {v : Value} {n : Nat} {xs : List Value} (h : w.ownsRow base e size v n xs) : w.ownsRow 0 e size v n xs :=
  ⟨h.1, h.2.imp id fun ⟨g, cap, cur, hv, _, rest⟩ => ⟨g, cap, cur, hv, Nat.zero_le _, rest⟩⟩

/-- The blocks of a blackboard that is being made: the rows 'done' are there. -/
structure Cln (k : Nat) (w wr : World) (m : Mem) (S : Bd) (B rb gb gc ob sb q0 : Nat) (done : List Value) : Prop where
  below : Below w.heap.size w wr
  lo : w.heap.size ≤ B ∧ w.heap.size ≤ rb ∧ w.heap.size ≤ gb ∧ w.heap.size ≤ ob ∧ w.heap.size ≤ sb
  hi : B < q0 ∧ rb < q0 ∧ gb < q0 ∧ ob < q0 ∧ sb < q0 ∧ q0 ≤ wr.heap.size
  nd : [B, rb, gb, ob, sb].Nodup
  blk : wr.heap[B]? = some (.cells #[.int .i64 S.tasks, m.tv, .int .i64 S.tries, .int .i64 S.log, .map (some rb), .slice (some ⟨gb, 0, none⟩) S.gens.length gc, .map (some ob), .slice (some ⟨sb, 0, none⟩) S.tasks S.tasks,
    .int .i64 S.st.mode, .int .i64 S.st.source, .bool S.st.hold, .int .i64 S.st.flags, .int .u64 S.st.epoch] 115)
  gens : wr.ownsRow 0 32 1 (.slice (some ⟨gb, 0, none⟩) S.gens.length gc) S.gens.length (natL S.gens)
  recs : MapIs wr rb (64 + k) m.rv
  owns : MapIs wr ob k (fun t g => if g = 0 ∧ S.own t ≠ 0 then some (.int .i64 (S.own t)) else none)
  subs : wr.heap[sb]? = some (.cells (done ++ List.replicate (S.tasks - done.length) nilS).toArray 130)
  dlen : done.length ≤ S.tasks
  rows : ∀ (t : Nat) (v : Value) (l : List Sb), done[t]? = some v → S.subs[t]? = some l → wr.ownsRow 0 135 6 v l.length (flatSb l)
  rown : ∀ v ∈ done, ∀ q, v.ownBlock = some q → q0 ≤ q ∧ q < wr.heap.size
  rdis : ∀ (i j : Nat) (v u : Value), done[i]? = some v → done[j]? = some u → i ≠ j → ∀ q, v.ownBlock = some q → u.ownBlock ≠ some q

section
variable {k : Nat} {w wr wc : World} {m : Mem} {S : Bd} {B rb gb gc ob sb q0 : Nat} {done : List Value}

theorem Cln.keep (h : Cln k w wr m S B rb gb gc ob sb q0 done) (hb : Below wr.heap.size wr wc) : Cln k w wc m S B rb gb gc ob sb q0 done where
  below := below2 h.below hb
  lo := h.lo
  hi := ⟨h.hi.1, h.hi.2.1, h.hi.2.2.1, h.hi.2.2.2.1, h.hi.2.2.2.2.1, Nat.le_trans h.hi.2.2.2.2.2 hb.size⟩
  nd := h.nd
  blk := (hb.block _ (block_lt h.blk)).trans h.blk
  gens := own_keepAt h.gens (fun q hq => by
    have e : q = gb := by cases hq; rfl
    subst e
    exact hb.block _ (by have := h.hi; omega))
  recs := h.recs.keep (hb.block _ (by have := h.hi; omega))
  owns := h.owns.keep (hb.block _ (by have := h.hi; omega))
  subs := (hb.block _ (block_lt h.subs)).trans h.subs
  dlen := h.dlen
  rows := fun t v l hv hl => own_keepAt (h.rows t v l hv hl) (fun q hq => hb.block _ (h.rown v (List.mem_of_getElem? hv) q hq).2)
  rown := fun v hv q hq => ⟨(h.rown v hv q hq).1, Nat.lt_of_lt_of_le (h.rown v hv q hq).2 hb.size⟩
  rdis := h.rdis

theorem set_rows (done : List Value) (n : Nat) (v : Value) (h : done.length < n) : (done ++ List.replicate (n - done.length) nilS).toArray.setIfInBounds done.length v = ((done ++ [v]) ++ List.replicate (n - (done ++ [v]).length) nilS).toArray := by
  obtain ⟨r, hr⟩ : ∃ r, n - done.length = r + 1 := ⟨n - done.length - 1, by omega⟩
  have hr' : n - (done ++ [v]).length = r := by simp; omega
  rw [hr, hr', List.setIfInBounds_toArray, List.replicate_succ]
  congr 1
  rw [List.set_append_right _ _ (Nat.le_refl _)]
  simp

theorem Cln.step (h0 : Cln k w wr m S B rb gb gc ob sb q0 done) (hb : Below wr.heap.size wr wc) (v : Value) (l : List Sb) (hl : S.subs[done.length]? = some l) (hown : wc.ownsRow wr.heap.size 135 6 v l.length (flatSb l)) (hlt : done.length < S.tasks) :
    Cln k w (wc.setCell ⟨sb, done.length, none⟩ v) m S B rb gb gc ob sb q0 (done ++ [v]) := by
  have h := h0.keep hb
  have hQ : q0 ≤ wr.heap.size := h0.hi.2.2.2.2.2
  have hsz : (wc.setCell ⟨sb, done.length, none⟩ v).heap.size = wc.heap.size := by simp
  have hne : ∀ i, i ≠ sb → (wc.setCell ⟨sb, done.length, none⟩ v).heap[i]? = wc.heap[i]? := fun i hi => Below.heap_setCell wc ⟨sb, done.length, none⟩ _ _ hi
  have hnd := h.nd
  simp only [List.nodup_cons, List.mem_cons, List.not_mem_nil, or_false, not_or] at hnd
  obtain ⟨⟨-, -, -, n1⟩, ⟨-, -, n2⟩, ⟨-, n3⟩, n4, -⟩ := hnd
  have hrs : ∀ q, q0 ≤ q → q ≠ sb := fun q hq => by have := h.hi; omega
  refine ⟨h.below.setCell (p := ⟨sb, done.length, none⟩) h.lo.2.2.2.2 _, h.lo, ⟨h.hi.1, h.hi.2.1, h.hi.2.2.1, h.hi.2.2.2.1, h.hi.2.2.2.2.1, by rw [hsz]; exact h.hi.2.2.2.2.2⟩, h.nd, (hne _ n1).trans h.blk, own_keepAt h.gens (fun q hq => by cases hq; exact hne _ n3), h.recs.keep (hne _ n2), h.owns.keep (hne _ n4), ?_, by simp; omega, ?_, ?_, ?_⟩
  · have := heap_setCell_same wc sb done.length _ _ v h.subs
    rw [this]
    congr 2
    exact set_rows done S.tasks v hlt
  · intro t u l' hu hl'
    by_cases ht : t < done.length
    · rw [List.getElem?_append_left ht] at hu
      exact own_keepAt (h.rows t u l' hu hl') (fun q hq => hne _ (hrs q (h.rown u (List.mem_of_getElem? hu) q hq).1))
    · have ht2 : t = done.length := by
        have := (List.getElem?_eq_some_iff.1 hu).1
        simp at this
        omega
      subst ht2
      rw [List.getElem?_append_right (Nat.le_refl _)] at hu
      simp at hu
      subst hu
      rw [hl] at hl'
      cases hl'
      exact own_keepAt (own_low hown) (fun q hq => hne _ (hrs q (Nat.le_trans hQ (hown.lt q hq).1)))
  · intro u hu q hqu
    rw [hsz]
    rcases List.mem_append.1 hu with h1 | h1
    · exact h.rown u h1 q hqu
    · rw [List.mem_singleton] at h1
      subst h1
      exact ⟨Nat.le_trans hQ (hown.lt q hqu).1, (hown.lt q hqu).2⟩
  · have hnew : ∀ (i : Nat) (u : Value), done[i]? = some u → ∀ q, u.ownBlock = some q → v.ownBlock ≠ some q := fun i u hu q hqu hv => by
      have h1 := (h0.rown u (List.mem_of_getElem? hu) q hqu).2
      have h2 := (hown.lt q hv).1
      omega
    intro i j a b ha hb' hij q hqa hqb
    by_cases hi : i < done.length
    · rw [List.getElem?_append_left hi] at ha
      by_cases hj : j < done.length
      · rw [List.getElem?_append_left hj] at hb'
        exact h.rdis i j a b ha hb' hij q hqa hqb
      · have hj2 : j = done.length := by
          have := (List.getElem?_eq_some_iff.1 hb').1
          simp at this
          omega
        subst hj2
        rw [List.getElem?_append_right (Nat.le_refl _)] at hb'
        simp at hb'
        subst hb'
        exact hnew i a ha q hqa hqb
    · have hi2 : i = done.length := by
        have := (List.getElem?_eq_some_iff.1 ha).1
        simp at this
        omega
      subst hi2
      rw [List.getElem?_append_right (Nat.le_refl _)] at ha
      simp at ha
      subst ha
      have hj : j < done.length := by
        have := (List.getElem?_eq_some_iff.1 hb').1
        simp at this
        omega
      rw [List.getElem?_append_left hj] at hb'
      exact hnew j b hb' q hqb hqa

/-- The clone is there. -/
theorem Cln.fin (h : IsBd k w m S) (c : Cln k w wr m S B rb gb gc ob sb q0 done) (hd : done.length = S.tasks) : IsBd k wr ⟨B, rb, gb, gc, ob, sb, m.tv, done, m.rv⟩ S where
  inv := h.inv
  kk := h.kk
  blk := c.blk
  gens := c.gens
  recs := c.recs
  owns := c.owns
  subs := by
    have := c.subs
    rw [hd, Nat.sub_self] at this
    simpa using this
  rlen := hd
  rows := c.rows
  topics := h.topics.below c.below
  rd := fun t g v hv => by
    obtain ⟨ws, h1, h2⟩ := h.rd t g v hv
    exact ⟨ws, h1, h2.below c.below⟩
  rn := h.rn
  nd := c.nd
  rown := fun v hv q hq => by
    have h1 := (c.rown v hv q hq).1
    have h2 := c.hi
    refine ⟨?_, ?_, ?_, ?_, ?_⟩ <;> (simp only; omega)
  rdis := c.rdis
  disj := fun i hi hr => by
    have h1 : m.ro i := hr
    have h2 := h.lt i (.inr h1)
    have h3 := c.lo
    have h4 := c.hi
    have h5 := c.below.size
    have h6 : w.heap.size ≤ i := by
      rcases hi with e | e | e | e | e | ⟨v, hv, hq⟩
      · simp only at e; omega
      · simp only at e; omega
      · simp only at e; omega
      · simp only at e; omega
      · simp only at e; omega
      · have := (c.rown v hv i hq).1; omega
    omega
  lt := fun i hi => by
    have h3 := c.hi
    have h5 := c.below.size
    rcases hi with (e | e | e | e | e | ⟨v, hv, hq⟩) | hr
    · simp only at e; omega
    · simp only at e; omega
    · simp only at e; omega
    · simp only at e; omega
    · simp only at e; omega
    · exact (c.rown v hv i hq).2
    · have h1 : m.ro i := hr
      have := h.lt i (.inr h1)
      omega

theorem Cln.own_ge (c : Cln k w wr m S B rb gb gc ob sb q0 done) {tv : Value} {rv : Nat → Nat → Option Value} : ∀ i, (⟨B, rb, gb, gc, ob, sb, tv, done, rv⟩ : Mem).own i → w.heap.size ≤ i := fun i hi => by
  have h3 := c.lo
  have h4 := c.hi
  rcases hi with e | e | e | e | e | ⟨v, hv, hq⟩
  · simp only at e; omega
  · simp only at e; omega
  · simp only at e; omega
  · simp only at e; omega
  · simp only at e; omega
  · have := (c.rown v hv i hq).1; omega

theorem own_pos {w : World} {base : Nat} {e : TypeId} {size : Nat} {v : Value} {n : Nat} {xs : List Value} (h : w.ownsRow base e size v n xs) (hn : 0 < n) : ∃ g c, v = .slice (some ⟨g, 0, none⟩) n c ∧ base ≤ g ∧ g < w.heap.size := by
  obtain ⟨b, o, c, hv, -, -, -, -⟩ := (Rd.of_own h).open_ hn
  rcases h.2 with ⟨h1, h2⟩ | ⟨g, cap, cur, h1, -⟩
  · omega
  · have hq := h.lt g (by rw [h1]; rfl)
    exact ⟨g, cap, h1, hq.1, hq.2⟩

end

end Go.Proofs.YtkkflnmfghegnaaGreatDoor

namespace Go.Proofs.YtkkflnmfghegnaaGreatDoor
open Go.RowKit

set_option maxRecDepth 100000 in
set_option maxHeartbeats 1600000 in
theorem clone_any {k : Nat} {m : Mem} {S : Bd} (w : World) (h : IsBd k w m S) :
    Calls Tryz.prog 48 #[.pointer (some ⟨m.bb, 0, none⟩)] w fun e w' => ∃ m' : Mem, e = .returned (.pointer (some ⟨m'.bb, 0, none⟩)) ∧ IsBd k w' m' S ∧ Below w.heap.size w w' ∧ (∀ i, m'.own i → w.heap.size ≤ i) ∧ (∀ i, m'.ro i → m.ro i) := by
  have HI := hide h
  obtain ⟨c0, c1, c2, c3, c4, c5, c6, c7, c8, c9, c10, c11, c12, cf, cl⟩ := row13 h.blk
  obtain ⟨T, hT⟩ : ∃ T, T = S.tasks := ⟨_, rfl⟩
  obtain ⟨N, hN⟩ : ∃ N, N = S.gens.length := ⟨_, rfl⟩
  obtain ⟨⟨s1, s2, s3, s4, s5⟩, hst⟩ : ∃ r, r = S.st := ⟨_, rfl⟩
  have hN1 : 1 ≤ N ∧ N ≤ 64 := by have := h.inv.glen; have := h.inv.tlen; omega
  have hT8 : 1 ≤ T ∧ T ≤ 8 := by have := h.inv.tasks; omega
  have HR := hide (fun x (hb : Below w.heap.size w x) => clone_recs (h.below hb).recs)
  have HO := hide (fun x (hb : Below w.heap.size w x) => clone_owns (h.below hb).owns)
  have HG := hide (fun x (hb : Below w.heap.size w x) => clone_nats (gsV m S) S.gens x (by omega) (by omega) (Rd.of_own (h.below hb).gens))
  obtain ⟨A, ca, htv, -⟩ := h.topics.shape
  obtain ⟨tn, htn⟩ : ∃ n, n = S.tp.length := ⟨_, rfl⟩
  rw [htv, ← htn] at c1
  have Htv := hide htv
  have Htn := hide htn
  clear htv htn
  simp only [gsV, ssV] at c5 c7 HG
  rw [← hN] at c5 HG
  rw [← hT] at c0 c7
  rw [← hst] at c8 c9 c10 c11 c12
  simp only at c8 c9 c10 c11 c12
  have HT := hide hT
  have HN := hide hN
  have HS := hide hst
  clear h hT hN hst
  go_enter Tryz.func48, Tryz.ntmps48
  go_upto_region 4 with fail
  have hy := heap_alloc_new w (.cells #[.int .i64 T, .slice A tn ca, .int .i64 S.tries, .int .i64 S.log, .map (some m.rb), .slice (some ⟨m.gb, 0, none⟩) N m.gc, .map (some m.ob), .slice (some ⟨m.sb, 0, none⟩) T T, .int .i64 s1, .int .i64 s2, .bool s3, .int .i64 s4, .int .u64 s5] 115)
  have hyB : Below w.heap.size w (w.alloc (.cells #[.int .i64 T, .slice A tn ca, .int .i64 S.tries, .int .i64 S.log, .map (some m.rb), .slice (some ⟨m.gb, 0, none⟩) N m.gc, .map (some m.ob), .slice (some ⟨m.sb, 0, none⟩) T T, .int .i64 s1, .int .i64 s2, .bool s3, .int .i64 s4, .int .u64 s5] 115)) := below_new w _
  have hyd : Below w.heap.size w (w.alloc (.cells #[.int .i64 T, .slice A tn ca, .int .i64 S.tries, .int .i64 S.log, .map (some m.rb), .slice (some ⟨m.gb, 0, none⟩) N m.gc, .map (some m.ob), .slice (some ⟨m.sb, 0, none⟩) T T, .int .i64 s1, .int .i64 s2, .bool s3, .int .i64 s4, .int .u64 s5] 115)).drew := hyB.drew
  have hys : (w.alloc (.cells #[.int .i64 T, .slice A tn ca, .int .i64 S.tries, .int .i64 S.log, .map (some m.rb), .slice (some ⟨m.gb, 0, none⟩) N m.gc, .map (some m.ob), .slice (some ⟨m.sb, 0, none⟩) T T, .int .i64 s1, .int .i64 s2, .bool s3, .int .i64 s4, .int .u64 s5] 115)).drew.heap.size = w.heap.size + 1 := by simp
  have HK : ∀ x, Below w.heap.size w x → x.cell? ⟨m.bb, 4, none⟩ = some (.map (some m.rb)) ∧ x.cell? ⟨m.bb, 5, none⟩ = some (.slice (some ⟨m.gb, 0, none⟩) N m.gc) ∧ x.cell? ⟨m.bb, 6, none⟩ = some (.map (some m.ob)) ∧ Below w.heap.size w x := fun x hb =>
    ⟨(hb.cell (p := ⟨m.bb, 4, none⟩) cl).trans c4, (hb.cell (p := ⟨m.bb, 5, none⟩) cl).trans c5, (hb.cell (p := ⟨m.bb, 6, none⟩) cl).trans c6, hb⟩
  have hK1 := HK _ hyd
  have hg := Nat.le_refl w.heap.size
  have HM := make_rows T (by omega)
  go_region_held3 (fun x => x.cell? ⟨m.bb, 4, none⟩ = some (.map (some m.rb)) ∧ x.cell? ⟨m.bb, 5, none⟩ = some (.slice (some ⟨m.gb, 0, none⟩) N m.gc) ∧ x.cell? ⟨m.bb, 6, none⟩ = some (.map (some m.ob)) ∧ Below w.heap.size w x)
    (first | with_reducible assumption | with_reducible exact hK1 | (refine HK _ ?_; (repeat refine Below.setCell ?_ hg _); with_reducible assumption))
    (first
      | (go_at_call 74; refine (HR.out _ (by with_reducible exact hyd)).mono ?_; rintro e x1 ⟨rfl, hb1, hl1, hm1⟩; have hx1 := below2 hyd hb1)
      | (go_at_call 75; refine (HG.out _ (by with_reducible exact hx1)).mono ?_; rintro e x2 ⟨gv, rfl, hg2, hb2⟩; have hx2 := below2 hx1 hb2; obtain ⟨gb, gc, rfl, hge, hgl⟩ := own_pos hg2 (by omega))
      | (go_at_call 76; refine (HO.out _ (by with_reducible exact hx2)).mono ?_; rintro e x3 ⟨rfl, hb3, hl3, hm3⟩; have hx3 := below2 hx2 hb3; have hlw : w.heap.size < x1.heap.size := Nat.lt_of_lt_of_le (by simp) hb1.size; have hy3 : x3.heap[w.heap.size]? = some (.cells #[.int .i64 T, .slice A tn ca, .int .i64 S.tries, .int .i64 S.log, .map (some m.rb), .slice (some ⟨m.gb, 0, none⟩) N m.gc, .map (some m.ob), .slice (some ⟨m.sb, 0, none⟩) T T, .int .i64 s1, .int .i64 s2, .bool s3, .int .i64 s4, .int .u64 s5] 115) := ((hb3.block _ (Nat.lt_of_lt_of_le hlw hb2.size)).trans ((hb2.block _ hlw).trans ((hb1.block _ (by simp)).trans hy))); obtain ⟨y0, y1, y2, y3, y4, y5, y6, y7, y8, y9, y10, y11, y12, yf, yl⟩ := row13 hy3))
  obtain ⟨z, hz⟩ : ∃ z, z = ((x3.setCell ⟨w.heap.size, 4, none⟩ (.map (some (w.heap.size + 1)))).setCell ⟨w.heap.size, 5, none⟩ (.slice (some ⟨gb, 0, none⟩) N gc)).setCell ⟨w.heap.size, 6, none⟩ (.map (some x2.heap.size)) := ⟨_, rfl⟩
  have e1 := heap_setCell_same x3 w.heap.size 4 _ _ (.map (some (w.heap.size + 1))) hy3
  have e2 := heap_setCell_same _ w.heap.size 5 _ _ (.slice (some ⟨gb, 0, none⟩) N gc) e1
  have e3 := heap_setCell_same _ w.heap.size 6 _ _ (.map (some x2.heap.size)) e2
  have hzo : ∀ i, i ≠ w.heap.size → z.heap[i]? = x3.heap[i]? := fun i hi => by rw [hz]; exact ((Below.heap_setCell _ ⟨w.heap.size, 6, none⟩ _ _ hi).trans (Below.heap_setCell _ ⟨w.heap.size, 5, none⟩ _ _ hi)).trans (Below.heap_setCell _ ⟨w.heap.size, 4, none⟩ _ _ hi)
  have hzs : z.heap.size = x3.heap.size := by rw [hz]; simp
  have hzB : Below w.heap.size w z := by rw [hz]; exact ((hx3.setCell (p := ⟨w.heap.size, 4, none⟩) hg _).setCell (p := ⟨w.heap.size, 5, none⟩) hg _).setCell (p := ⟨w.heap.size, 6, none⟩) hg _
  rw [← hz] at e3 ⊢
  have hz1 : z.heap[w.heap.size]? = some (.cells #[.int .i64 T, .slice A tn ca, .int .i64 S.tries, .int .i64 S.log, .map (some (w.heap.size + 1)), .slice (some ⟨gb, 0, none⟩) N gc, .map (some x2.heap.size), .slice (some ⟨m.sb, 0, none⟩) T T, .int .i64 s1, .int .i64 s2, .bool s3, .int .i64 s4, .int .u64 s5] 115) := e3
  rw [hys] at hm1 hl1
  have Hm1 := hide hm1
  have Hm3 := hide hm3
  have Hg2 := hide hg2
  have Hzo := hide hzo
  have Hsz := hide (And.intro hl1 (And.intro hge (And.intro hgl (And.intro hl3 hzs))))
  have Hblk := hide (And.intro hb2 hb3)
  have HzB := hide hzB
  have a1 := alloc_was z (.cells (madeCells #[nilS] T) 130) _ _ hz1
  have hW1 := heap_setCell_same _ w.heap.size 7 _ _ (.slice (some ⟨z.heap.size, 0, none⟩) T T) a1
  have hWo : ∀ i, i ≠ w.heap.size → ((z.alloc (.cells (madeCells #[nilS] T) 130)).setCell ⟨w.heap.size, 7, none⟩ (.slice (some ⟨z.heap.size, 0, none⟩) T T)).heap[i]? = (z.alloc (.cells (madeCells #[nilS] T) 130)).heap[i]? := fun i hi => Below.heap_setCell _ ⟨w.heap.size, 7, none⟩ _ _ hi
  have d7 : z.cell? ⟨m.bb, 7, none⟩ = some (.slice (some ⟨m.sb, 0, none⟩) T T) := (hzB.cell (p := ⟨m.bb, 7, none⟩) cl).trans c7
  have hzW : Below w.heap.size w ((z.alloc (.cells (madeCells #[nilS] T) 130)).setCell ⟨w.heap.size, 7, none⟩ (.slice (some ⟨z.heap.size, 0, none⟩) T T)) := (hzB.alloc hzB.size _).setCell (p := ⟨w.heap.size, 7, none⟩) hg _
  have d7' : ((z.alloc (.cells (madeCells #[nilS] T) 130)).setCell ⟨w.heap.size, 7, none⟩ (.slice (some ⟨z.heap.size, 0, none⟩) T T)).cell? ⟨m.bb, 7, none⟩ = some (.slice (some ⟨m.sb, 0, none⟩) T T) := (hzW.cell (p := ⟨m.bb, 7, none⟩) cl).trans c7
  have clz : m.bb < z.heap.size := Nat.lt_of_lt_of_le cl hzB.size
  clear y0 y1 y2 y3 y4 y5 y6 y7 y8 y9 y10 y11 y12 yf yl e1 e2 e3 hy3 hz hzo hm1 hm3 hg2 hb1 hb2 hb3 hx1 hx2 hx3 hl1 hl3 hge hgl hlw hK1 HK hy hyB hyd hys HR HO HG c0 c1 c2 c3 c4 c5 c6 c7 c8 c9 c10 c11 c12 cf hzB hzs
  obtain ⟨y0, y1, y2, y3, y4, y5, y6, y7, y8, y9, y10, y11, y12, yf, yl⟩ := row13 a1
  go_wp2_with fail
  obtain ⟨V, hV⟩ : ∃ V, V = ((z.alloc (.cells (madeCells #[nilS] T) 130)).setCell ⟨w.heap.size, 7, none⟩ (.slice (some ⟨z.heap.size, 0, none⟩) T T)) := ⟨_, rfl⟩
  rw [← hV] at hW1 hWo hzW d7' ⊢
  have hVs : V.heap.size = z.heap.size + 1 := by rw [hV]; simp
  have hsb : V.heap[z.heap.size]? = some (.cells (madeCells #[nilS] T) 130) := (hWo _ (by have := Hsz.out; omega)).trans (heap_alloc_new z _)
  have hVz : ∀ i, i ≠ w.heap.size → i < x3.heap.size → V.heap[i]? = x3.heap[i]? := fun i h1 h2 => (hWo i h1).trans (((below_new z _).block i (by have := Hsz.out; omega)).trans (Hzo.out i h1))
  obtain ⟨l1, l2, l3, l4, l5⟩ := Hsz.out
  have hb2 := Hblk.out.1
  have hb3 := Hblk.out.2
  have C0 : Cln k w V m S w.heap.size (w.heap.size + 1) gb gc x2.heap.size z.heap.size (z.heap.size + 1) [] := {
    below := hzW
    lo := by omega
    hi := by omega
    nd := by
      simp only [List.nodup_cons, List.mem_cons, List.not_mem_nil, or_false, not_or, List.nodup_nil, and_true, not_false_eq_true]
      omega
    blk := by rw [← HT.out, ← HN.out, Htv.out, ← Htn.out, ← HS.out]; exact hW1
    gens := by
      rw [← HN.out]
      exact own_keepAt (own_low Hg2.out) (fun q hq => by
        have e : q = gb := by cases hq; rfl
        subst e
        exact (hVz _ (by omega) (by omega)).trans (hb3.block _ (by omega)))
    recs := Hm1.out.keep ((hVz _ (by omega) (by omega)).trans ((hb3.block _ (by omega)).trans (hb2.block _ (by omega))))
    owns := Hm3.out.keep (hVz _ (by omega) (by omega))
    subs := by
      rw [hsb, ← HT.out]
      congr 2
      apply Array.toList_inj.1
      rw [toList_madeCells_one]
      simp
    dlen := Nat.zero_le _
    rows := fun t v l hv => by simp at hv
    rown := fun v hv => by simp at hv
    rdis := fun i j v u hv => by simp at hv }
  have HC0 := hide C0
  have hlw : m.bb < w.heap.size := cl
  have hlz : w.heap.size < z.heap.size := by omega
  clear C0 hW1 hWo hzW d7 d7' hsb hVz hV hb2 hb3 Hblk Hm1 Hm3 Hg2 Hzo HzB Hsz y0 y1 y2 y3 y4 y5 y6 y7 y8 y9 y10 y11 y12 yf yl hz1 a1 clz l1 l2 l3 l4 l5 HM hVs
  generalize z.heap.size = sb at *
  generalize x2.heap.size = ob at *
  go_loopw [40] (fun i wr => ∃ (j : Nat) (done : List Value), j ≤ T ∧ i = .int .i64 j ∧ done.length = j ∧ Hid (Cln k w wr m S w.heap.size (w.heap.size + 1) gb gc ob sb (sb + 1) done)) (fun i _ => T - (intOf i).toNat)
  case atStart => exact ⟨0, [], Nat.zero_le _, rfl, rfl, HC0⟩
  case round =>
    obtain ⟨j, done, hj, rfl, hdl, HC⟩ := hrel
    by_cases hlt : j < T
    · have hjS : j < S.tasks := by rw [← HT.out]; exact hlt
      have hjr : j < m.rows.length := by rw [HI.out.rlen]; exact hjS
      have hjs : j < S.subs.length := by rw [HI.out.inv.slen]; exact hjS
      obtain ⟨v, hv⟩ : ∃ v, m.rows[j]? = some v := ⟨m.rows[j], List.getElem?_eq_getElem hjr⟩
      have hl : S.subs[j]? = some (S.subs.getD j []) := by simp [List.getElem?_eq_getElem hjs]
      obtain ⟨L, hL⟩ : ∃ L, L = S.subs.getD j [] := ⟨_, rfl⟩
      rw [← hL] at hl
      have h8 := HI.out.inv.sub8 _ (List.mem_of_getElem? hl)
      have hwB := HC.out.below
      have HU := hide (fun x (hb : Below wr.heap.size wr x) => clone_subs v L 0 x (by omega) (((HI.out.below hwB).below hb).rows j v L hv hl))
      have hbk := HC.out.blk
      have hsbk := HC.out.subs
      have hq := HC.out.hi
      have hcell : wr.cell? ⟨m.sb, j, none⟩ = some v := by
        have := (HI.out.below hwB).subs
        simp only [World.cell?, this]
        simp [hv]
      have hmsb : m.sb < w.heap.size := block_lt HI.out.subs
      have d7 : wr.cell? ⟨m.bb, 7, none⟩ = some (.slice (some ⟨m.sb, 0, none⟩) T T) := by
        have := (row13 (HI.out.below hwB).blk).2.2.2.2.2.2.2.1
        rw [this, HT.out]
      have e7 : wr.cell? ⟨w.heap.size, 7, none⟩ = some (.slice (some ⟨sb, 0, none⟩) T T) := by
        have := (row13 hbk).2.2.2.2.2.2.2.1
        rw [this, HT.out]
      have hji : (j : Int) < (T : Int) := by omega
      have hws := hwB.size
      have HK : ∀ x, Below wr.heap.size wr x → x.cell? ⟨m.bb, 7, none⟩ = some (.slice (some ⟨m.sb, 0, none⟩) T T) ∧ x.cell? ⟨w.heap.size, 7, none⟩ = some (.slice (some ⟨sb, 0, none⟩) T T) ∧ x.cell? ⟨m.sb, j, none⟩ = some v := fun x hb =>
        ⟨(hb.cell (p := ⟨m.bb, 7, none⟩) (by show m.bb < _; omega)).trans d7, (hb.cell (p := ⟨w.heap.size, 7, none⟩) (by show w.heap.size < _; omega)).trans e7, (hb.cell (p := ⟨m.sb, j, none⟩) (by show m.sb < _; omega)).trans hcell⟩
      have HK2 : ∀ x u, Below wr.heap.size wr x → (x.setCell ⟨sb, j, none⟩ u).cell? ⟨m.bb, 7, none⟩ = some (.slice (some ⟨m.sb, 0, none⟩) T T) ∧ (x.setCell ⟨sb, j, none⟩ u).cell? ⟨w.heap.size, 7, none⟩ = some (.slice (some ⟨sb, 0, none⟩) T T) ∧ (x.setCell ⟨sb, j, none⟩ u).cell? ⟨m.sb, j, none⟩ = some v := fun x u hb => by
        obtain ⟨h1, h2, h3⟩ := HK x hb
        exact ⟨(World.cell?_of_block (a := ⟨m.bb, 7, none⟩) (Below.heap_setCell x ⟨sb, j, none⟩ _ _ (by show m.bb ≠ sb; omega))).trans h1, (World.cell?_of_block (a := ⟨w.heap.size, 7, none⟩) (Below.heap_setCell x ⟨sb, j, none⟩ _ _ (by show w.heap.size ≠ sb; omega))).trans h2, (World.cell?_of_block (a := ⟨m.sb, j, none⟩) (Below.heap_setCell x ⟨sb, j, none⟩ _ _ (by show m.sb ≠ sb; omega))).trans h3⟩
      have hwd : Below wr.heap.size wr wr.drew := (Below.refl _ _).drew
      have hK1 := HK _ hwd
      have hsl : sb < wr.heap.size := block_lt hsbk
      have Hl := hide hl
      have Hdl := hide hdl
      have hsz : (done ++ List.replicate (S.tasks - done.length) nilS).length = T := by rw [List.length_append, List.length_replicate, HT.out]; omega
      have Hsb := hide hsbk
      have Hsz := hide hsz
      clear hl hdl hbk hsbk hq hv hL h8 hjr hjs hjS hsz
      go_upto_region 9 with fail
      go_region_held3 (fun x => x.cell? ⟨m.bb, 7, none⟩ = some (.slice (some ⟨m.sb, 0, none⟩) T T) ∧ x.cell? ⟨w.heap.size, 7, none⟩ = some (.slice (some ⟨sb, 0, none⟩) T T) ∧ x.cell? ⟨m.sb, j, none⟩ = some v)
        (first | with_reducible assumption | with_reducible exact hK1 | with_reducible exact HK _ (by with_reducible assumption) | with_reducible exact HK2 _ _ (by with_reducible assumption))
        (first | (go_at_call 77; refine (HU.out _ (by with_reducible exact hwd)).mono ?_; rintro e x1 ⟨v', rfl, ho1, hb1⟩; obtain ⟨A', k', rfl, -⟩ := (Rd.of_own ho1).shape; have hx1 := below2 hwd hb1; have hs1 := (hx1.block sb hsl).trans Hsb.out; have f1 := frozen_of hs1 j; have hcx := cell_of hs1 j; rw [List.getElem?_toArray, List.getElem?_eq_getElem (by rw [Hsz.out]; exact hlt)] at hcx; obtain ⟨u', hu'⟩ : ∃ u', x1.cell? ⟨sb, j, none⟩ = some u' := ⟨_, hcx⟩; clear hcx))
      go_wp2
      go_roundw
      case rel => exact ⟨j + 1, done ++ [.slice A' L.length k'], by omega, by go_num, by simp [Hdl.out], hide (by
        have := HC.out.step hx1 (.slice A' L.length k') L (by rw [Hdl.out]; exact Hl.out) ho1 (by rw [Hdl.out, ← HT.out]; exact hlt)
        rw [Hdl.out] at this
        exact this)⟩
      case measure => simp [intOf]; omega
    · have hjT : j = T := by omega
      subst hjT
      clear hlt
      go_wp2
      go_ret
      exact ⟨⟨w.heap.size, w.heap.size + 1, gb, gc, ob, sb, m.tv, done, m.rv⟩, rfl, HC.out.fin HI.out (by rw [hdl, HT.out]), HC.out.below, HC.out.own_ge, fun i hi => hi⟩

end Go.Proofs.YtkkflnmfghegnaaGreatDoor
