/-
  A new blackboard as plain data; its four blocks, laid in any order. Conditions: none. (Printed by gen_new.py.) The walk of New at a config that may be. Conditions: a config in memory, that passes the check.
-/
import Derived.Test.YtpilfhjlfbjloaaGreatDoorBPoll
import Derived.Test.YtpilfhjlfbjloaaGreatDoorGCheck
import Derived.Deep.Cut
import Derived.Deep.CutRange
import Derived.Deep.DeepCutAuto
namespace Go.Proofs.YtpilfhjlfbjloaaGreatDoor
open Go.RowKit

/-- A new blackboard. -/
def newS (a : Int) (ts : List Tp) (b c : Int) : Bd :=
  { tasks := a.toNat, tries := b, log := c, tp := ts, gens := List.replicate ts.length 0, recs := fun t g => if g = 0 then (ts[t]?).map (fun p => List.replicate p.2.1.toNat 0) else none, own := fun _ => 0, subs := List.replicate a.toNat [], st := rg0 }

theorem topicsGo_ok : ∀ (ts : List Tp) (k : Nat) (seen : List (List UInt8)), topicsGo ts k seen = (0, 0) → ∀ p ∈ ts, 1 ≤ p.2.1 ∧ p.2.1 ≤ 64 ∧ 2 ≤ p.2.2 ∧ p.2.2 ≤ 16
  | [], _, _, _, p, hp => by cases hp
  | t :: r, k, seen, h, p, hp => by
    unfold topicsGo at h
    split at h
    · rename_i hn
      have h2 : topicS seen t = 0 := congrArg Prod.snd h
      exact absurd h2 hn
    · rename_i hn
      rcases List.mem_cons.1 hp with rfl | hp
      · have hz : topicS seen p = 0 := by omega
        unfold topicS at hz
        split at hz
        · cases hz
        · split at hz
          · cases hz
          · split at hz
            · assumption
            · cases hz
      · exact topicsGo_ok r _ _ h p hp

theorem check_ok {a b c : Int} {ts : List Tp} (h : checkS a ts b c = (0, 0)) : (1 ≤ a ∧ a ≤ 8) ∧ (1 ≤ ts.length ∧ ts.length ≤ 64) ∧ ∀ p ∈ ts, 1 ≤ p.2.1 ∧ p.2.1 ≤ 64 ∧ 2 ≤ p.2.2 ∧ p.2.2 ≤ 16 := by
  unfold checkS at h
  split at h
  · cases h
  · split at h
    · cases h
    · split at h
      · cases h
      · rename_i h1 h2 h3
        exact ⟨by omega, by omega, topicsGo_ok _ _ _ h⟩

theorem new_gen (a : Int) (ts : List Tp) (b c : Int) (t : Nat) : (newS a ts b c).gen t = 0 := by
  simp only [Bd.gen, newS, List.getD_eq_getElem?_getD, List.getElem?_replicate]
  split <;> rfl

theorem new_inv {a b c : Int} {ts : List Tp} (h : checkS a ts b c = (0, 0)) : Inv 0 (newS a ts b c) := by
  obtain ⟨h1, h2, h3⟩ := check_ok h
  exact
  { tasks := by show 1 ≤ a.toNat ∧ a.toNat ≤ 8; omega
    tlen := h2
    tp := h3
    glen := by simp [newS]
    gk := fun g hg => by simp [newS] at hg; omega
    slen := by simp [newS]
    sub8 := fun l hl => by simp [newS] at hl; rw [hl.2]; simp
    subs := fun l hl s hs => by simp [newS] at hl; rw [hl.2] at hs; cases hs
    owns := fun t => by simp [newS]
    reg := by simp [newS, rg0, modeB, sourceB, healthB]
    recs := fun t g ws hw => by
      simp only [newS] at hw
      split at hw
      · obtain ⟨p, hp, rfl⟩ := Option.map_eq_some_iff.1 hw
        have := h3 p (List.mem_of_getElem? hp)
        simp
        omega
      · cases hw
    kept := fun t ht => by
      rw [new_gen]
      have ht2 : t < ts.length := by simpa [newS] using ht
      exact ⟨List.replicate (ts[t]).2.1.toNat 0, by simp [newS, ht2]⟩ }

abbrev boardO (tasks tries log : Int) (tv : Value) (rb gb ob sb n tn : Nat) : Obj := .cells #[.int .i64 tasks, tv, .int .i64 tries, .int .i64 log, .map (some rb), .slice (some ⟨gb, 0, none⟩) n n, .map (some ob), .slice (some ⟨sb, 0, none⟩) tn tn,
  .int .i64 0, .int .i64 0, .bool false, .int .i64 0, .int .u64 0] 77

/-- The blocks of a new blackboard. -/
structure NewAt (W x : World) (tasks tries log : Int) (tv : Value) (n tn rb gb ob sb bb : Nat) : Prop where
  below : Below W.heap.size W x
  hr : x.heap[rb]? = some (.map #[] 0)
  hg : x.heap[gb]? = some (.cells (madeCells #[.int .u64 0] n) 39)
  ho : x.heap[ob]? = some (.map #[] 0)
  hs : x.heap[sb]? = some (.cells (madeCells #[nilS] tn) 131)
  hb : x.heap[bb]? = some (boardO tasks tries log tv rb gb ob sb n tn)
  ge : W.heap.size ≤ rb ∧ W.heap.size ≤ gb ∧ W.heap.size ≤ ob ∧ W.heap.size ≤ sb ∧ W.heap.size ≤ bb
  nd : [bb, rb, gb, ob, sb].Nodup

theorem NewAt.drew {W x : World} {tasks tries log : Int} {tv : Value} {n tn rb gb ob sb bb : Nat} (h : NewAt W x tasks tries log tv n tn rb gb ob sb bb) : NewAt W x.drew tasks tries log tv n tn rb gb ob sb bb :=
  ⟨h.below.drew, h.hr, h.hg, h.ho, h.hs, h.hb, h.ge, h.nd⟩

theorem five_rows' (w : World) (A B C D E : Obj) : (((((w.alloc A).alloc B).alloc C).alloc D).alloc E).heap[w.heap.size]? = some A ∧ (((((w.alloc A).alloc B).alloc C).alloc D).alloc E).heap[w.heap.size + 1]? = some B ∧
    (((((w.alloc A).alloc B).alloc C).alloc D).alloc E).heap[w.heap.size + 1 + 1]? = some C ∧ (((((w.alloc A).alloc B).alloc C).alloc D).alloc E).heap[w.heap.size + 1 + 1 + 1]? = some D ∧
    (((((w.alloc A).alloc B).alloc C).alloc D).alloc E).heap[w.heap.size + 1 + 1 + 1 + 1]? = some E ∧ Below w.heap.size w (((((w.alloc A).alloc B).alloc C).alloc D).alloc E) := by
  obtain ⟨h1, h2, h3, h4, h5, -, h6⟩ := five_rows w A B C D E
  exact ⟨h1, h2, h3, h4, h5, h6⟩

/-- One of the four that were laid ahead of the board. -/
def LaidAs (W : World) (A B C D : Obj) (q : Nat) (o : Obj) : Prop := (q = W.heap.size ∧ A = o) ∨ (q = W.heap.size + 1 ∧ B = o) ∨ (q = W.heap.size + 1 + 1 ∧ C = o) ∨ (q = W.heap.size + 1 + 1 + 1 ∧ D = o)

theorem LaidAs.row {W : World} {A B C D : Obj} {q : Nat} {o : Obj} (h : LaidAs W A B C D q o) (E : Obj) : (((((W.alloc A).alloc B).alloc C).alloc D).alloc E).heap[q]? = some o ∧ W.heap.size ≤ q ∧ q < W.heap.size + 1 + 1 + 1 + 1 := by
  obtain ⟨h0, h1, h2, h3, h4, hb⟩ := five_rows' W A B C D E
  rcases h with ⟨rfl, rfl⟩ | ⟨rfl, rfl⟩ | ⟨rfl, rfl⟩ | ⟨rfl, rfl⟩
  · exact ⟨h0, by omega, by omega⟩
  · exact ⟨h1, by omega, by omega⟩
  · exact ⟨h2, by omega, by omega⟩
  · exact ⟨h3, by omega, by omega⟩

theorem new_of (W : World) (A B C D : Obj) (tasks tries log : Int) (tv : Value) (n tn rb gb ob sb : Nat) (hr : LaidAs W A B C D rb (.map #[] 0)) (hg : LaidAs W A B C D gb (.cells (madeCells #[.int .u64 0] n) 39))
    (ho : LaidAs W A B C D ob (.map #[] 0)) (hs : LaidAs W A B C D sb (.cells (madeCells #[nilS] tn) 131)) (hn : rb ≠ gb ∧ rb ≠ ob ∧ rb ≠ sb ∧ gb ≠ ob ∧ gb ≠ sb ∧ ob ≠ sb) :
    NewAt W (((((W.alloc A).alloc B).alloc C).alloc D).alloc (boardO tasks tries log tv rb gb ob sb n tn)) tasks tries log tv n tn rb gb ob sb (W.heap.size + 1 + 1 + 1 + 1) := by
  obtain ⟨-, -, -, -, h4, hb⟩ := five_rows' W A B C D (boardO tasks tries log tv rb gb ob sb n tn)
  obtain ⟨r1, r2, r3⟩ := hr.row (boardO tasks tries log tv rb gb ob sb n tn)
  obtain ⟨g1, g2, g3⟩ := hg.row (boardO tasks tries log tv rb gb ob sb n tn)
  obtain ⟨o1, o2, o3⟩ := ho.row (boardO tasks tries log tv rb gb ob sb n tn)
  obtain ⟨s1, s2, s3⟩ := hs.row (boardO tasks tries log tv rb gb ob sb n tn)
  refine ⟨hb, r1, g1, o1, s1, h4, by omega, ?_⟩
  simp only [List.nodup_cons, List.mem_cons, List.not_mem_nil, or_false, not_or, not_false_eq_true, List.nodup_nil, and_true]
  omega


/-- The loop that lays the first records. -/
structure NewLoop (Z : World) (rb : Nat) (ts : List Tp) (j : Nat) (x : World) (rv : Nat → Nat → Option Value) : Prop where
  fr : Fr Z rb rb x
  map : MapIs x rb j rv
  rd : ∀ t g v, rv t g = some v → g = 0 ∧ t < j ∧ ∃ p, ts[t]? = some p ∧ Rd x v 1 p.2.1.toNat (u64V (List.replicate p.2.1.toNat 0)) ∧ ∀ q, v.ownBlock = some q → Z.heap.size ≤ q ∧ q < x.heap.size
  rn : ∀ t, t < j → (rv t 0).isSome

theorem NewLoop.start (Z : World) (rb : Nat) (ts : List Tp) (h : Z.heap[rb]? = some (.map #[] 0)) : NewLoop Z rb ts 0 Z (fun _ _ => none) where
  fr := Fr.refl _ _ _
  map := by
    have h1 := MapIs.made Z
    obtain ⟨D, ⟨es, clock, hb, r⟩, hf⟩ := h1
    have he : (.map es clock : Obj) = .map #[] 0 := by
      have h2 := heap_alloc_new Z (.map #[] 0)
      rw [hb] at h2
      exact Option.some.inj h2
    injection he with e1 e2
    subst e1 e2
    exact ⟨D, ⟨#[], 0, h, r⟩, hf⟩
  rd := fun t g v h => by cases h
  rn := fun t ht => by omega

theorem NewLoop.step {Z x y z : World} {rb : Nat} {ts : List Tp} {j : Nat} {rv : Nat → Nat → Option Value} {v : Value} {p : Tp} (h : NewLoop Z rb ts j x rv) (hy : Below x.heap.size x y) (hrbz : rb < Z.heap.size) (hz : MapIs z rb (j + 1) (laidIn rv j 0 v)) (ht : y.mapTurned z rb)
    (hp : ts[j]? = some p) (hv : Rd y v 1 p.2.1.toNat (u64V (List.replicate p.2.1.toNat 0))) (hq : ∀ q, v.ownBlock = some q → x.heap.size ≤ q ∧ q < y.heap.size) : NewLoop Z rb ts (j + 1) z (laidIn rv j 0 v) := by
  have hg := ht.grown
  have hrbx : rb < x.heap.size := Nat.lt_of_lt_of_le hrbz h.fr.size
  have hsz : y.heap.size ≤ z.heap.size := hg.size
  have hkeep : ∀ i, i < y.heap.size → i ≠ rb → z.heap[i]? = y.heap[i]? := fun i hi hne => hg.block i hi (fun e => hne (Option.some.inj e))
  refine ⟨⟨hg.os.trans (hy.os.trans h.fr.os), hg.tape.trans (hy.tape.trans h.fr.tape), hg.output.trans (hy.output.trans h.fr.output), by have := h.fr.size; have := hy.size; omega, fun i hi h1 h2 => ?_⟩, hz, fun t g u hu => ?_, fun t ht => ?_⟩
  · have hix := Nat.lt_of_lt_of_le hi h.fr.size
    exact (hkeep i (Nat.lt_of_lt_of_le hix hy.size) h1).trans ((hy.block i hix).trans (h.fr.block i hi h1 h2))
  · unfold laidIn at hu
    split at hu
    · rename_i he
      obtain ⟨rfl, rfl⟩ := he
      cases hu
      refine ⟨rfl, by omega, p, hp, hv.keepAt hsz (fun q hq2 => ?_), fun q hq2 => ?_⟩
      · obtain ⟨q1, q2⟩ := hq q hq2
        exact hkeep q q2 (by omega)
      · obtain ⟨q1, q2⟩ := hq q hq2
        have := h.fr.size
        omega
    · obtain ⟨r1, r2, p', r3, r4, r5⟩ := h.rd t g u hu
      refine ⟨r1, by omega, p', r3, (r4.below hy).keepAt hsz (fun q hq2 => ?_), fun q hq2 => ?_⟩
      · obtain ⟨q1, q2⟩ := r5 q hq2
        have := hy.size
        exact hkeep q (by omega) (by omega)
      · obtain ⟨q1, q2⟩ := r5 q hq2
        have := hy.size
        omega
  · unfold laidIn
    by_cases he : t = j
    · subst he; simp
    · rw [if_neg (fun e => he e.1)]
      exact h.rn t (by omega)

/-- What New has laid is a blackboard. -/
theorem NewAt.isBd {W Z x : World} {a b c : Int} {ts : List Tp} {tv : Value} {rb gb ob sb bb : Nat} {rv : Nat → Nat → Option Value} {base : Nat} (hck : checkS a ts b c = (0, 0)) (h : NewAt W Z a b c tv ts.length a.toNat rb gb ob sb bb) (hl : NewLoop Z rb ts ts.length x rv)
    (htv : W.ownsRow base 72 3 tv ts.length (flatT ts)) (hbase : base ≤ W.heap.size) :
    ∃ m : Mem, m.bb = bb ∧ IsBd 0 x m (newS a ts b c) ∧ ∀ i, m.own i ∨ m.ro i → base ≤ i := by
  obtain ⟨k1, k2, k3⟩ := check_ok hck
  have hnd := h.nd
  simp only [List.nodup_cons, List.mem_cons, List.not_mem_nil, or_false, not_or] at hnd
  obtain ⟨⟨n1, n2, n3, n4⟩, ⟨n5, n6, n7⟩, ⟨n8, n9⟩, n10, -⟩ := hnd
  obtain ⟨g1, g2, g3, g4, g5⟩ := h.ge
  have hk : ∀ i, i < Z.heap.size → i ≠ rb → x.heap[i]? = Z.heap[i]? := fun i hi hne => hl.fr.block i hi hne hne
  have lr := block_lt h.hr
  have lg := block_lt h.hg
  have lo := block_lt h.ho
  have ls := block_lt h.hs
  have lb := block_lt h.hb
  have hta : (a.toNat : Int) = a := by omega
  obtain ⟨A, ct, rfl, -⟩ := (Rd.of_own htv).shape
  have htq : ∀ q, (Value.slice A ts.length ct).ownBlock = some q → base ≤ q ∧ q < W.heap.size := fun q hq => htv.lt q hq
  have hWx : ∀ q, q < W.heap.size → x.heap[q]? = W.heap[q]? := fun q hq => (hk q (Nat.lt_of_lt_of_le hq h.below.size) (by omega)).trans (h.below.block q hq)
  have hrows : ∀ v ∈ List.replicate a.toNat nilS, v = nilS := fun v hv => (List.mem_replicate.1 hv).2
  refine ⟨⟨bb, rb, gb, ts.length, ob, sb, .slice A ts.length ct, List.replicate a.toNat nilS, rv⟩, rfl, ?_, ?_⟩
  · exact
    { inv := new_inv hck
      kk := by omega
      blk := by
        rw [hk bb lb n1, h.hb]
        simp only [bdO, boardO, gsV, ssV, newS, rg0, List.length_replicate, hta]
        rfl
      gens := by
        refine ⟨by simp [newS, natL], .inr ⟨gb, ts.length, _, by simp [gsV, newS], Nat.zero_le _, (hk gb lg (Ne.symm n5)).trans h.hg, by simp [newS], by unfold maxLen; omega, by simp [size_madeCells], ?_⟩⟩
        rw [made_list]
        simp [newS, natL]
      recs := hl.map.mono (by omega)
      owns := by
        have hm : MapIs x ob 0 (fun _ _ => none) := by
          have h1 := (NewLoop.start Z ob ts h.ho).map
          exact h1.keep (hk ob lo (Ne.symm n6))
        have he : (fun (t g : Nat) => if g = 0 ∧ (newS a ts b c).own t ≠ 0 then some (Value.int .i64 ((newS a ts b c).own t)) else none) = (fun _ _ => none) := by
          funext t g
          simp [newS]
        rw [he]
        exact hm
      subs := by
        rw [hk sb ls (Ne.symm n7), h.hs]
        congr 2
        apply Array.ext'
        rw [made_list]
      rlen := by simp [newS]
      rows := fun t v l hv hl2 => by
        have e1 := hrows v (List.mem_of_getElem? hv)
        have e2 : l = [] := by
          have := List.mem_of_getElem? hl2
          simp [newS] at this
          exact this.2
        subst e1 e2
        exact World.ownsRow_nil _ _ _ _
      topics := (Rd.of_own htv).keepAt (Nat.le_trans h.below.size hl.fr.size) (fun q hq => hWx q (htq q hq).2)
      rd := fun t g v hv => by
        obtain ⟨r1, r2, p, r3, r4, r5⟩ := hl.rd t g v hv
        subst r1
        exact ⟨List.replicate p.2.1.toNat 0, by simp [newS, r3], by simpa using r4⟩
      rn := fun t g hv => by
        simp only [newS]
        by_cases hg : g = 0
        · subst hg
          by_cases ht : t < ts.length
          · have := hl.rn t ht
            have hv2 : rv t 0 = none := hv
            rw [hv2] at this
            cases this
          · simp [List.getElem?_eq_none (Nat.le_of_not_lt ht)]
        · rw [if_neg hg]
      nd := h.nd
      rown := fun v hv q hq => by rw [hrows v hv] at hq; cases hq
      rdis := fun i j v u hv hu hij q hq => by rw [hrows v (List.mem_of_getElem? hv)] at hq; cases hq
      disj := fun i hi hr => by
        have hi2 : i < Z.heap.size ∧ W.heap.size ≤ i := by
          rcases hi with rfl | rfl | rfl | rfl | rfl | ⟨v, hv, hq⟩
          · exact ⟨lb, g5⟩
          · exact ⟨lr, g1⟩
          · exact ⟨lg, g2⟩
          · exact ⟨lo, g3⟩
          · exact ⟨ls, g4⟩
          · rw [hrows v hv] at hq; cases hq
        rcases hr with hq | ⟨t, g, v, hv, hq⟩
        · have := (htq i hq).2
          omega
        · obtain ⟨-, -, p, -, -, r5⟩ := hl.rd t g v hv
          have := (r5 i hq).1
          omega
      lt := fun i hi => by
        have hxs := hl.fr.size
        rcases hi with hi | hr
        · rcases hi with rfl | rfl | rfl | rfl | rfl | ⟨v, hv, hq⟩
          · exact Nat.lt_of_lt_of_le lb hxs
          · exact Nat.lt_of_lt_of_le lr hxs
          · exact Nat.lt_of_lt_of_le lg hxs
          · exact Nat.lt_of_lt_of_le lo hxs
          · exact Nat.lt_of_lt_of_le ls hxs
          · rw [hrows v hv] at hq; cases hq
        · rcases hr with hq | ⟨t, g, v, hv, hq⟩
          · have := (htq i hq).2
            have := h.below.size
            omega
          · obtain ⟨-, -, p, -, -, r5⟩ := hl.rd t g v hv
            exact (r5 i hq).2 }
  · intro i hi
    rcases hi with hi | hr
    · rcases hi with rfl | rfl | rfl | rfl | rfl | ⟨v, hv, hq⟩
      · exact Nat.le_trans hbase g5
      · exact Nat.le_trans hbase g1
      · exact Nat.le_trans hbase g2
      · exact Nat.le_trans hbase g3
      · exact Nat.le_trans hbase g4
      · rw [hrows v hv] at hq; cases hq
    · rcases hr with hq | ⟨t, g, v, hv, hq⟩
      · exact (htq i hq).1
      · obtain ⟨-, -, p, -, -, r5⟩ := hl.rd t g v hv
        have := (r5 i hq).1
        have := h.below.size
        omega

end Go.Proofs.YtpilfhjlfbjloaaGreatDoor

namespace Go.Proofs.YtpilfhjlfbjloaaGreatDoor
open Go.RowKit

theorem info_topic : (Tryz.prog.info? 72).map (fun i => (i.zero, i.size, i.bytes)) = some (some (.agg #[.string ⟨#[]⟩, .int .i64 0, .int .i64 0]), 3, 32) := by kernel_rfl
theorem info_topic_size (w : World) : (Go.sizeOf 72).run Tryz.prog w = .ok 3 w := by kernel_rfl
theorem info_row : (Tryz.prog.info? 131).map (fun i => (i.zero, i.size, i.bytes)) = some (some nilS, 1, 24) := by kernel_rfl
theorem und_rows : Tryz.prog.underlying 75 = some (.slice 131) := by kernel_rfl

theorem make_rows (n : Nat) (hn : n ≤ 100) (w : World) : (Instr.makeSlice 75 (.int .i64 (n : Int)) (.int .i64 (n : Int))).run Tryz.prog w = .ok (.slice (some ⟨w.heap.size, 0, none⟩) n n) (w.alloc (.cells (madeCells #[nilS] n) 131)) :=
  run_make_row' 75 131 nilS 24 und_rows info_row rfl .i64 .i64 n (by omega) (by omega) w

theorem one_flatT (ts : List Tp) : ∀ u ∈ flatT ts, u.oneCell' = true := by
  intro u hu
  unfold flatT at hu
  obtain ⟨p, -, hp⟩ := List.mem_flatMap.1 hu
  simp at hp
  rcases hp with rfl | rfl | rfl <;> rfl

/-- A clone of topics. -/
theorem clone_topics (v : Value) (ts : List Tp) (w : World) (h0 : 0 < ts.length) (h1 : ts.length ≤ 100) (hr : Rd w v 3 ts.length (flatT ts)) :
    Calls Tryz.prog 16 #[v] w fun e w' => ∃ v', e = .returned v' ∧ w'.ownsRow w.heap.size 72 3 v' ts.length (flatT ts) ∧ Below w.heap.size w w' := by
  obtain ⟨i0, hi, hz0, hz1, hz2⟩ := info_parts info_topic
  obtain ⟨b, o, c', rfl, h1', h2, hb, hc⟩ := hr.open_ h0
  refine (Tryz.slices_Clone28 i0 _ 3 32 hi hz0 hz1 hz2 rfl (by omega) info_topic_size b o ts.length c' (flatT ts) w (flatT_len ts) (by unfold maxLen; omega) (by omega) hc (one_flatT ts)).mono ?_
  rintro e w' ⟨v', rfl, hown, -, hbel⟩
  exact ⟨v', rfl, hown, hbel⟩

abbrev cfgO (a : Int) (v : Value) (b c : Int) : Obj := .cells #[.int .i64 a, v, .int .i64 b, .int .i64 c] 29

set_option maxRecDepth 100000 in
set_option maxHeartbeats 3200000 in
theorem new_any (a b c : Int) (ts : List Tp) (v : Value) (w : World) (hr : Rd w v 3 ts.length (flatT ts)) (hts : ∀ t ∈ ts, t.1.size ≤ 9223372036854775807) (hck : checkS a ts b c = (0, 0)) :
    Calls Tryz.prog 6 #[cfgV a v b c] w fun e w' => ∃ m : Mem, e = .returned (.tuple #[.pointer (some ⟨m.bb, 0, none⟩), .int .i64 0]) ∧ IsBd 0 w' m (newS a ts b c) ∧ Below w.heap.size w w' ∧ ∀ i, m.own i ∨ m.ro i → w.heap.size ≤ i := by
  obtain ⟨k1, k2, k3⟩ := check_ok hck
  obtain ⟨A0, cc, rfl, -⟩ := id hr.shape
  have HC := hide (fun (w' : World) (hb : Below w.heap.size w w') => check_any a b c ts (.slice A0 ts.length cc) w' (hr.below hb) hts)
  rw [hck] at HC
  have HCl := hide (fun (w' : World) (hb : Below w.heap.size w w') => clone_topics (.slice A0 ts.length cc) ts w' (by omega) (by omega) (hr.below hb))
  obtain ⟨tn, rfl⟩ : ∃ tn : Nat, a = tn := ⟨a.toNat, by omega⟩
  have htn : tn ≤ 100 := by omega
  obtain ⟨n, hn⟩ : ∃ n, n = ts.length := ⟨_, rfl⟩
  rw [← hn] at HC HCl
  rw [← hn]
  have hn100 : n ≤ 100 := by omega
  have hmkS := fun x => make_rows tn htn x
  have hmkG := fun x => make_u64 n hn100 x
  have hmm := @run_makeMap Tryz.prog
  have Hck := hide hck
  have Hn := hide hn
  have K1 := hide k1
  have K2 := hide k2
  have K3 := hide k3
  clear hr hts hck hn k1 k2 k3
  go_enter Tryz.func6, Tryz.ntmps6
  go_wp2_with fail
  have hb0 := below_new w (cfgO tn (.slice A0 n cc) b c)
  refine (HC.out _ hb0).mono ?_
  rintro e w1 ⟨rfl, hb1⟩
  have hb01 := below2 hb0 hb1
  have hT1 : w1.heap[w.heap.size]? = some (cfgO tn (.slice A0 n cc) b c) := (hb1.block _ (by simp)).trans (heap_alloc_new w _)
  have hl1 := block_lt hT1
  obtain ⟨p0, p1, p2, p3, pf, pl⟩ := row4 hT1
  clear hb1
  go_wp2_with fail
  have hb02 := below2 hb01 (below_new w1 (.cells #[.int .i64 0, .int .i64 0] 61))
  refine (HCl.out _ hb02).mono ?_
  rintro e w2 ⟨tv, rfl, hown, hb2⟩
  obtain ⟨At, ct, rfl, -⟩ := (Rd.of_own hown).shape
  have hT2 : w2.heap[w.heap.size]? = some (cfgO tn (.slice A0 n cc) b c) := (hb2.block _ (by simp; omega)).trans (alloc_was _ _ _ _ hT1)
  have hb03 := below2 hb02 hb2
  clear p0 p1 p2 p3 pf pl
  obtain ⟨p0, p1, p2, p3, pf, pl⟩ := row4 hT2
  go_upto_region 5 with fail
  obtain ⟨W, hW⟩ : ∃ W, W = w2.setCell ⟨w.heap.size, 1, none⟩ (.slice At n ct) := ⟨_, rfl⟩
  have hWT : W.heap[w.heap.size]? = some (cfgO tn (.slice At n ct) b c) := by rw [hW]; exact heap_setCell_same w2 w.heap.size 1 _ _ (.slice At n ct) hT2
  have hWo : ∀ q, q ≠ w.heap.size → W.heap[q]? = w2.heap[q]? := fun q hq => by rw [hW]; exact Below.heap_setCell w2 ⟨w.heap.size, 1, none⟩ _ _ hq
  have hWs : W.heap.size = w2.heap.size := by rw [hW]; simp
  have hWb : Below w.heap.size w W := by rw [hW]; exact hb03.setCell (Nat.le_refl _) _
  have hWown : W.ownsRow (w.heap.size + 1) 72 3 (.slice At n ct) n (flatT ts) := own_keepAt (own_base hown (by simp; omega)) (fun q hq => hWo q (by have := (hown.lt q hq).1; simp at this; omega))
  rw [← hW]
  have HWown := hide hWown
  have HWb := hide hWb
  clear hW hT2 hWo hWs hown hb2 hb03 hWown p0 p1 p2 p3 pf pl
  obtain ⟨p0, p1, p2, p3, pf, pl⟩ := row4 hWT
  have pl1 : w.heap.size < W.heap.size + 1 := by omega
  have pl2 : w.heap.size < W.heap.size + 1 + 1 := by omega
  have pl3 : w.heap.size < W.heap.size + 1 + 1 + 1 := by omega
  have pl4 : w.heap.size < W.heap.size + 1 + 1 + 1 + 1 := by omega
  have pn0 : ¬ w.heap.size = W.heap.size := by omega
  have pn1 : ¬ w.heap.size = W.heap.size + 1 := by omega
  have pn2 : ¬ w.heap.size = W.heap.size + 1 + 1 := by omega
  have pn3 : ¬ w.heap.size = W.heap.size + 1 + 1 + 1 := by omega
  go_cut [5] (fun s5 wx => ∃ rb gb ob sb bb, s5 = .pointer (some ⟨bb, 0, none⟩) ∧ NewAt W wx tn b c (.slice At n ct) n tn rb gb ob sb bb)
  case first =>
    go_region
    all_goals (
      go_wp2_with fail
      go_meet
      exact ⟨_, _, _, _, _, rfl, NewAt.drew (new_of W _ _ _ _ _ _ _ _ _ _ _ _ _ _ (by first | exact .inl ⟨by omega, rfl⟩ | exact .inr (.inl ⟨by omega, rfl⟩) | exact .inr (.inr (.inl ⟨by omega, rfl⟩)) | exact .inr (.inr (.inr ⟨by omega, rfl⟩))) (by first | exact .inl ⟨by omega, rfl⟩ | exact .inr (.inl ⟨by omega, rfl⟩) | exact .inr (.inr (.inl ⟨by omega, rfl⟩)) | exact .inr (.inr (.inr ⟨by omega, rfl⟩))) (by first | exact .inl ⟨by omega, rfl⟩ | exact .inr (.inl ⟨by omega, rfl⟩) | exact .inr (.inr (.inl ⟨by omega, rfl⟩)) | exact .inr (.inr (.inr ⟨by omega, rfl⟩))) (by first | exact .inl ⟨by omega, rfl⟩ | exact .inr (.inl ⟨by omega, rfl⟩) | exact .inr (.inr (.inl ⟨by omega, rfl⟩)) | exact .inr (.inr (.inr ⟨by omega, rfl⟩))) (by omega))⟩)
  case rest =>
    obtain ⟨rb, gb, ob, sb, bb, rfl, hN⟩ := hcut
    have hbw := hN.below
    have q1 := (hbw.cell (p := ⟨w.heap.size, 1, none⟩) pl).trans p1
    have c4 : wc.cell? ⟨bb, 4, none⟩ = some (.map (some rb)) := cell_of hN.hb 4
    have hbbl := block_lt hN.hb
    have hrbl := block_lt hN.hr
    have hnd := hN.nd
    have hge := hN.ge
    simp only [List.nodup_cons, List.mem_cons, List.not_mem_nil, or_false, not_or] at hnd
    have hbr : bb ≠ rb := hnd.1.1
    have hL0 := NewLoop.start wc rb ts hN.hr
    have pl' : w.heap.size < wc.heap.size := Nat.lt_of_lt_of_le pl hbw.size
    have HN := hide hN
    clear hN p0 p1 p2 p3 pf pl1 pl2 pl3 pl4 pn0 pn1 pn2 pn3 hnd hWT hmkS hmkG hb0 hb01 hb02 hl1 hT1
    go_wp2_with fail
    go_loopw [34] (fun i wr => ∃ (j : Nat) (rv : Nat → Nat → Option Value), j ≤ n ∧ i = .int .i64 j ∧ NewLoop wc rb ts j wr rv) (fun i _ => n - (intOf i).toNat)
    case atStart => exact ⟨0, _, Nat.zero_le _, rfl, hL0⟩
    case round =>
      obtain ⟨j, rv, hj, rfl, hL⟩ := hrel
      have hfr := hL.fr
      by_cases hlt : j < n
      · have hjl : j < ts.length := by have := Hn.out; omega
        have hRx : Rd wr (.slice At n ct) 3 n (flatT ts) := (Rd.of_own HWown.out).keepAt (Nat.le_trans hbw.size hfr.size) (fun q hq => by
          have hq2 := (HWown.out.lt q hq).2
          have hqr : q ≠ rb := by omega
          exact (hfr.block q (Nat.lt_of_lt_of_le hq2 hbw.size) hqr hqr).trans (hbw.block q hq2))
        obtain ⟨bt, ot, c', hv, -, -, hbt, hct⟩ := hRx.open_ (by omega)
        cases hv
        obtain ⟨f0, f1, f2⟩ := flatT_at ts j hjl
        obtain ⟨⟨nm, wd, dp⟩, hp⟩ : ∃ p, p = ts[j] := ⟨_, rfl⟩
        have hpj : ts[j]? = some (nm, wd, dp) := by rw [hp]; simp
        rw [← hp] at f0 f1 f2
        have hw64 := K3.out _ (List.mem_of_getElem? hpj)
        obtain ⟨wn, hwn⟩ : ∃ wn : Nat, wd = wn := ⟨wd.toNat, by simp only at hw64; omega⟩
        subst hwn
        have d0 := hct _ _ f0
        have d1 := hct _ _ f1
        have d2 := hct _ _ f2
        rw [← Nat.add_assoc] at d1 d2
        have hwn : wn ≤ 100 := by simp only at hw64; omega
        have hmkW := fun x => make_u64 wn hwn x
        have hji : (j : Int) < (n : Int) := by omega
        have x4 := (World.cell?_of_block (a := ⟨bb, 4, none⟩) (hfr.block bb hbbl hbr hbr)).trans c4
        have xbl : bb < wr.heap.size := Nat.lt_of_lt_of_le hbbl hfr.size
        have xrl : rb < wr.heap.size := Nat.lt_of_lt_of_le hrbl hfr.size
        have hxe : ∀ q, q < wr.heap.size → (((wr.alloc (.cells #[.string nm, .int .i64 wn, .int .i64 dp] 72)).alloc (.cells (madeCells #[.int .u64 0] wn) 39))).heap[q]? = wr.heap[q]? := fun q hq => (below_new2 wr _ _).block q hq
        have hM := hL.map.keep (hxe rb xrl)
        obtain ⟨z1, hz1, hM1, ht1⟩ := hM.store (T := 73) (by unfold maxLen; omega) und_recs (t := j) (g := 0) (by omega) (by omega) (.slice (some ⟨wr.heap.size + 1, 0, none⟩) wn wn)
        obtain ⟨z2, hz2, hM2, ht2⟩ := (hM.keep (w' := ((wr.alloc (.cells #[.string nm, .int .i64 wn, .int .i64 dp] 72)).alloc (.cells (madeCells #[.int .u64 0] wn) 39)).drew) rfl).store (T := 73) (by unfold maxLen; omega) und_recs (t := j) (g := 0) (by omega) (by omega) (.slice (some ⟨wr.heap.size + 1, 0, none⟩) wn wn)
        have hs1 : (Instr.mapUpdate 73 (.map (some rb)) (.agg #[.int .i64 j, .int .u64 0]) (.slice (some ⟨wr.heap.size + 1, 0, none⟩) wn wn)).run Tryz.prog ((wr.alloc (.cells #[.string nm, .int .i64 wn, .int .i64 dp] 72)).alloc (.cells (madeCells #[.int .u64 0] wn) 39)) = .ok () z1 := hz1
        have hs2 : (Instr.mapUpdate 73 (.map (some rb)) (.agg #[.int .i64 j, .int .u64 0]) (.slice (some ⟨wr.heap.size + 1, 0, none⟩) wn wn)).run Tryz.prog ((wr.alloc (.cells #[.string nm, .int .i64 wn, .int .i64 dp] 72)).alloc (.cells (madeCells #[.int .u64 0] wn) 39)).drew = .ok () z2 := hz2
        clear hz1 hz2
        have hRow : ((wr.alloc (.cells #[.string nm, .int .i64 wn, .int .i64 dp] 72)).alloc (.cells (madeCells #[.int .u64 0] wn) 39)).heap[wr.heap.size + 1]? = some (.cells (madeCells #[.int .u64 0] wn) 39) := (heap_two wr _ _).2
        have HRow := hide hRow
        have HL := hide hL
        have Hp := hide hpj
        have HM1 := hide hM1
        have HM2 := hide hM2
        have Ht1 := hide ht1
        have Ht2 := hide ht2
        clear hRx hct f0 f1 f2 hp hpj hxe hM hM1 hM2 ht1 ht2 hRow hL hw64
        go_wp2_with fail
        go_region
        go_wp2
        go_roundw
        case rel =>
          refine ⟨j + 1, laidIn rv j 0 (.slice (some ⟨wr.heap.size + 1, 0, none⟩) wn wn), by omega, by go_num, HL.out.step (below_new2 wr (.cells #[.string nm, .int .i64 wn, .int .i64 dp] 72) (.cells (madeCells #[.int .u64 0] wn) 39)).drew hrbl HM2.out Ht2.out Hp.out ?_ (fun q hq => by cases hq; exact ⟨Nat.le_succ _, by simp⟩)⟩
          refine Rd.of_own (base := 0) (e := 39) ⟨by simp, .inr ⟨wr.heap.size + 1, wn, _, rfl, Nat.zero_le _, HRow.out, Nat.le_refl _, by unfold maxLen; omega, by simp [size_madeCells], ?_⟩⟩
          rw [made_list]
          simp
        case measure => simp [intOf]; omega
      · have hjn : j = n := by omega
        subst hjn
        have HL := hide hL
        clear hL hlt
        go_wp2
        go_ret2
        have hL := HL.out
        have hN := HN.out
        have hsz := hWb.size
        have hnn := Hn.out
        subst hnn
        obtain ⟨m, hmb, hIs, hbase⟩ := NewAt.isBd (a := (tn : Int)) Hck.out hN hL HWown.out pl
        exact ⟨m, by rw [hmb]; simp, hIs, hWb.trans ⟨hL.fr.os.trans hbw.os, hL.fr.tape.trans hbw.tape, hL.fr.output.trans hbw.output, Nat.le_trans hbw.size hL.fr.size, fun q hq => (hL.fr.block q (by have := hbw.size; omega) (by omega) (by omega)).trans (hbw.block q (by omega))⟩, fun i hi => by have := hbase i hi; omega⟩

end Go.Proofs.YtpilfhjlfbjloaaGreatDoor
