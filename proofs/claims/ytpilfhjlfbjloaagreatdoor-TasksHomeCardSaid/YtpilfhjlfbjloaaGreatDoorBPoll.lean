/-
  The walk of the blackboard's call Poll. Conditions: a blackboard in memory.
-/
import Derived.Test.YtpilfhjlfbjloaaGreatDoorBSub
namespace Go.Proofs.YtpilfhjlfbjloaaGreatDoor
open Go.RowKit


theorem own_setN {w : World} {g n cap p size : Nat} {e : TypeId} {xs : List Value} {u : Value} (h : w.ownsRow 0 e size (.slice (some ⟨g, 0, none⟩) n cap) n xs) (hn : 0 < n) : (w.setCell ⟨g, p, none⟩ u).ownsRow 0 e size (.slice (some ⟨g, 0, none⟩) n cap) n (xs.set p u) := by
  refine ⟨by rw [List.length_set]; exact h.1, ?_⟩
  rcases h.2 with ⟨hv, hn⟩ | ⟨g', cap', cur, hv, hb, hg, h1, h2, h3, h4⟩
  · omega
  · cases hv
    refine .inr ⟨g, cap, _, rfl, hb, heap_setCell_same w g p _ e u hg, h1, h2, by simp [h3], ?_⟩
    rw [← h4]
    simp only [Array.toList_setIfInBounds]
    rw [List.take_set]

/-- A cursor laid into a row. -/
theorem flatSb_cu : ∀ (l : List Sb) (j : Nat) (s : Sb) (c : Cu), l[j]? = some s →
    ((((flatSb l).set (j * 6 + 2) (.int .u64 c.next)).set (j * 6 + 3) (.int .i64 c.cap)).set (j * 6 + 4) (.int .u64 c.got)).set (j * 6 + 5) (.int .u64 c.lost) = flatSb (l.set j { s with cu := c })
  | [], j, s, c, h => by simp at h
  | p :: ps, 0, s, c, h => by
    simp at h
    subst h
    simp [flatSb]
  | p :: ps, j + 1, s, c, h => by
    have ih := flatSb_cu ps j s c (by simpa using h)
    have e : flatSb (p :: ps) = sbL p ++ flatSb ps := by simp [flatSb]
    have e1 : flatSb ((p :: ps).set (j + 1) { s with cu := c }) = sbL p ++ flatSb (ps.set j { s with cu := c }) := by simp [flatSb]
    have e2 : ∀ (k : Nat) (L : List Value) (u : Value), (sbL p ++ L).set ((j + 1) * 6 + k) u = sbL p ++ L.set (j * 6 + k) u := fun k L u => by
      rw [List.set_append_right _ _ (by simp; omega)]
      congr 2
      simp
      omega
    rw [e, e1, e2, e2, e2, e2, ih]

theorem own_cu {w : World} {b n cap j : Nat} {l : List Sb} {s : Sb} (c : Cu) (h : w.ownsRow 0 137 6 (.slice (some ⟨b, 0, none⟩) n cap) n (flatSb l)) (hn : 0 < n) (hs : l[j]? = some s) :
    ((((w.setCell ⟨b, j * 6 + 2, none⟩ (.int .u64 c.next)).setCell ⟨b, j * 6 + 3, none⟩ (.int .i64 c.cap)).setCell ⟨b, j * 6 + 4, none⟩ (.int .u64 c.got)).setCell ⟨b, j * 6 + 5, none⟩ (.int .u64 c.lost)).ownsRow 0 137 6 (.slice (some ⟨b, 0, none⟩) n cap) n (flatSb (l.set j { s with cu := c })) := by
  rw [← flatSb_cu l j s c hs]
  exact own_setN (own_setN (own_setN (own_setN h hn) hn) hn) hn

/-- What was there is as it was, but for two blocks. -/
structure Fr (Z : World) (b g : Nat) (x : World) : Prop where
  os : x.os = Z.os
  tape : x.tape = Z.tape
  output : x.output = Z.output
  size : Z.heap.size ≤ x.heap.size
  block : ∀ i, i < Z.heap.size → i ≠ b → i ≠ g → x.heap[i]? = Z.heap[i]?

theorem Fr.refl (Z : World) (b g : Nat) : Fr Z b g Z := ⟨rfl, rfl, rfl, Nat.le_refl _, fun _ _ _ _ => rfl⟩
theorem Fr.below {Z x y : World} {b g : Nat} (h : Fr Z b g x) (hb : Below x.heap.size x y) : Fr Z b g y :=
  ⟨hb.os.trans h.os, hb.tape.trans h.tape, hb.output.trans h.output, Nat.le_trans h.size hb.size, fun i hi h1 h2 => (hb.block i (Nat.lt_of_lt_of_le hi h.size)).trans (h.block i hi h1 h2)⟩
theorem Fr.set {Z x : World} {b g : Nat} (h : Fr Z b g x) (p : Addr) (u : Value) (hp : p.block = b ∨ p.block = g) : Fr Z b g (x.setCell p u) :=
  ⟨h.os, h.tape, h.output, by have := h.size; simpa using this, fun i hi h1 h2 => (Below.heap_setCell x p u i (fun e => by rcases hp with e2 | e2; exact h1 (e.trans e2); exact h2 (e.trans e2))).trans (h.block i hi h1 h2)⟩

theorem made_list (n : Nat) (z : Value) : (madeCells #[z] n).toList = List.replicate n z := by
  apply List.ext_getElem
  · simp [madeCells]
  · intro i h1 h2
    simp [madeCells, Nat.mod_one]

/-- The row while its first j are seen. -/
def seenUpTo (S : Bd) (l : List Sb) (j : Nat) : List Sb := S.seen (l.take j) ++ l.drop j
def gensUpTo (S : Bd) (l : List Sb) (j : Nat) : List Nat := (l.take j).map (fun s => S.gen s.topic) ++ List.replicate (l.length - j) 0

theorem seenUpTo_len (S : Bd) (l : List Sb) (j : Nat) : (seenUpTo S l j).length = l.length := by simp [seenUpTo, Bd.seen]; omega
theorem gensUpTo_len (S : Bd) (l : List Sb) (j : Nat) (h : j ≤ l.length) : (gensUpTo S l j).length = l.length := by simp [gensUpTo]; omega
theorem seenUpTo_at (S : Bd) (l : List Sb) (j : Nat) (s : Sb) (h : l[j]? = some s) : (seenUpTo S l j)[j]? = some s := by
  have hj := (List.getElem?_eq_some_iff.1 h).1
  unfold seenUpTo Bd.seen
  rw [List.getElem?_append_right (by simp; omega)]
  simp
  rw [show j + (j - min j l.length) = j by omega]
  exact h

theorem set_mid {α : Type} (A B : List α) (x y : α) : (A ++ x :: B).set A.length y = A ++ y :: B := by simp

theorem seenUpTo_step (S : Bd) (l : List Sb) (j : Nat) (s : Sb) (h : l[j]? = some s) : (seenUpTo S l j).set j { s with cu := seeS s.cu (S.gen s.topic) } = seenUpTo S l (j + 1) := by
  obtain ⟨hj, hs⟩ := List.getElem?_eq_some_iff.1 h
  unfold seenUpTo Bd.seen
  rw [List.drop_eq_getElem_cons hj, hs, List.take_succ_eq_append_getElem hj, hs, List.map_append]
  have e := set_mid ((l.take j).map fun s => { s with cu := seeS s.cu (S.gen s.topic) }) (l.drop (j + 1)) s { s with cu := seeS s.cu (S.gen s.topic) }
  rw [show ((l.take j).map fun s => { s with cu := seeS s.cu (S.gen s.topic) } : List Sb).length = j by simp; omega] at e
  rw [e]
  simp

theorem gensUpTo_step (S : Bd) (l : List Sb) (j : Nat) (s : Sb) (h : l[j]? = some s) : (gensUpTo S l j).set j (S.gen s.topic) = gensUpTo S l (j + 1) := by
  obtain ⟨hj, hs⟩ := List.getElem?_eq_some_iff.1 h
  unfold gensUpTo
  rw [show l.length - j = (l.length - (j + 1)) + 1 by omega, List.replicate_succ, List.take_succ_eq_append_getElem hj, hs, List.map_append]
  have e := set_mid ((l.take j).map fun s => S.gen s.topic) (List.replicate (l.length - (j + 1)) 0) 0 (S.gen s.topic)
  rw [show ((l.take j).map fun s => S.gen s.topic : List Nat).length = j by simp; omega] at e
  rw [e]
  simp

theorem seenUpTo_end (S : Bd) (l : List Sb) : seenUpTo S l l.length = S.seen l := by simp [seenUpTo]
theorem gensUpTo_end (S : Bd) (l : List Sb) : gensUpTo S l l.length = l.map (fun s => S.gen s.topic) := by simp [gensUpTo]

theorem seeS_inv {c : Cu} {g k : Nat} (h1 : c.got + c.lost + 1 ≤ c.next) (h2 : c.next ≤ k + 1) (hg : g ≤ k) (hc : 1 ≤ c.cap) : (seeS c g).next ≤ k + 1 ∧ (seeS c g).got + (seeS c g).lost + 1 ≤ (seeS c g).next ∧ (seeS c g).cap = c.cap := by
  unfold seeS
  by_cases h3 : g < c.next
  · rw [if_pos h3]; exact ⟨h2, h1, rfl⟩
  · rw [if_neg h3]
    by_cases h4 : c.cap < g - c.next + 1
    · rw [if_pos h4]; exact ⟨by show g + 1 - c.cap ≤ k + 1; omega, by show c.got + (c.lost + (g + 1 - c.cap - c.next)) + 1 ≤ g + 1 - c.cap; omega, rfl⟩
    · rw [if_neg h4]; exact ⟨h2, h1, rfl⟩

theorem seen_len (S : Bd) (l : List Sb) : (S.seen l).length = l.length := by simp [Bd.seen]
theorem seen_gens (S : Bd) (l : List Sb) : (S.seen l).map (fun s => S.gen s.topic) = l.map (fun s => S.gen s.topic) := by simp [Bd.seen]

theorem seen_ok {k : Nat} {w : World} {m : Mem} {S : Bd} (h : IsBd k w m S) {l : List Sb} (hl : l ∈ S.subs) : ∀ s ∈ S.seen l, s.topic < S.tp.length ∧ s.rank ≤ 255 ∧ 1 ≤ s.cu.cap ∧ s.cu.cap ≤ 15 ∧ s.cu.next ≤ k + 1 ∧ s.cu.got + s.cu.lost + 1 ≤ s.cu.next := by
  intro s hs
  unfold Bd.seen at hs
  obtain ⟨s0, hs0, rfl⟩ := List.mem_map.1 hs
  have h1 := h.inv.subs l hl s0 hs0
  have h2 := seeS_inv (c := s0.cu) (g := S.gen s0.topic) (k := k) h1.2.2.2.2.2 h1.2.2.2.2.1 (h.gen_le _) h1.2.2.1
  simp only
  omega

/-- What is left behind the loop. -/
theorem row_left {k : Nat} {w Z x : World} {m : Mem} {S : Bd} {task b n cA g8 : Nat} {l' : List Sb} (h : IsBd k w m S) (hk : k + 1 ≤ 1000000) (hZb : Below w.heap.size w Z) (hv : m.rows[task]? = some (.slice (some ⟨b, 0, none⟩) n cA)) (hn : n = l'.length)
    (hl8 : n ≤ 8) (hlk : ∀ s ∈ l', s.topic < S.tp.length ∧ s.rank ≤ 255 ∧ 1 ≤ s.cu.cap ∧ s.cu.cap ≤ 15 ∧ s.cu.next ≤ k + 2 ∧ s.cu.got + s.cu.lost + 1 ≤ s.cu.next) (hg8 : w.heap.size ≤ g8) (hfr : Fr Z b g8 x)
    (hrow : x.ownsRow 0 137 6 (.slice (some ⟨b, 0, none⟩) n cA) n (flatSb l')) :
    IsBd (k + 1) x (m.setRow task (.slice (some ⟨b, 0, none⟩) n cA)) { S with subs := S.subs.set task l' } ∧ Turns w x m (m.setRow task (.slice (some ⟨b, 0, none⟩) n cA)) ∧ ∀ i, (m.setRow task (.slice (some ⟨b, 0, none⟩) n cA)).own i → m.own i := by
  have hvm := List.mem_of_getElem? hv
  have hsz : w.heap.size ≤ x.heap.size := Nat.le_trans hZb.size hfr.size
  have hkk : ∀ i, i < w.heap.size → i ≠ b → x.heap[i]? = w.heap[i]? := fun i hi hb => (hfr.block i (Nat.lt_of_lt_of_le hi hZb.size) hb (by omega)).trans (hZb.block i hi)
  have hsb : b ≠ m.sb := (h.rown _ hvm b rfl).2.2.2.2
  have hset : m.rows.set task (.slice (some ⟨b, 0, none⟩) n cA) = m.rows := by
    obtain ⟨h1, h2⟩ := List.getElem?_eq_some_iff.1 hv
    rw [← h2, List.set_getElem_self]
  subst hn
  refine ⟨h.set_row hk hv hl8 hlk hsz (fun i h1 h2 h3 => hkk i h3 (fun e => h2 (by rw [e]; rfl))) ?_ hrow (fun q hq => .inl hq), ?_, fun i hi => by rw [Mem.setRow, hset] at hi; exact hi⟩
  · rw [hset]
    exact (hkk _ (h.lt _ (.inl (.inr (.inr (.inr (.inr (.inl rfl))))))) (Ne.symm hsb)).trans h.subs
  · refine ⟨hfr.os.trans hZb.os, hfr.tape.trans hZb.tape, hfr.output.trans hZb.output, hsz, fun i hi hn => hkk i hi (fun e => hn (.inr (.inr (.inr (.inr (.inr ⟨_, hvm, by rw [e]; rfl⟩)))))), fun i hi => ?_, fun i hi => .inl hi, rfl⟩
    rw [Mem.setRow, hset] at hi
    exact .inl hi

theorem setRow_ro {m : Mem} {task : Nat} {v : Value} {i : Nat} (h : (m.setRow task v).ro i) : m.ro i := h

theorem post_up2 {k : Nat} {w w4 w5 : World} {m m' : Mem} {S : Bd} {a : An} {gv wv : Value} {g : Nat} (h : IsBd k w4 m' S) (ht : Turns w w4 m m') (hg : w.heap.size ≤ g) (hne : ∀ i, m'.own i ∨ m'.ro i → i ≠ g)
    (hgv : w4.ownsRow w.heap.size 39 1 gv a.gens.length (natL a.gens)) (hwv : w4.ownsRow w.heap.size 39 1 wv a.words.length (u64V a.words)) (hf : ∀ q, gv.ownBlock = some q ∨ wv.ownBlock = some q → ¬ m'.own q ∧ ¬ m'.ro q)
    (hq : ∀ q, gv.ownBlock = some q ∨ wv.ownBlock = some q → q ≠ g) (h1 : w5.os = w4.os) (h2 : w5.tape = w4.tape) (h3 : w5.output = w4.output) (hs : w5.heap.size = w4.heap.size) (hk : ∀ i, i ≠ g → w5.heap[i]? = w4.heap[i]?) :
    DoPost k w m (S, a) (.returned (anV a gv wv)) w5 := by
  refine ⟨m', gv, wv, rfl, h.frame (by omega) (fun i hi => hk i (hne i hi)), ?_, ?_, ?_, hf⟩
  · exact ⟨h1.trans ht.os, h2.trans ht.tape, h3.trans ht.output, by have := ht.size; omega, fun i hi hn => (hk i (by omega)).trans (ht.block i hi hn), ht.own, ht.ro, ht.bb⟩
  · exact own_keepAt hgv (fun q h => hk q (hq q (.inl h)))
  · exact own_keepAt hwv (fun q h => hk q (hq q (.inr h)))

theorem pollS_none {S : Bd} {task : Nat} {l : List Sb} (hl : S.subs.getD task [] = l) (h0 : l ≠ []) (hp : none = pickS (S.seen l) (l.map fun s => S.gen s.topic) l.length) : pollS S task = ({ S with subs := S.subs.set task (S.seen l) }, refS 14) := by
  unfold pollS
  simp only [hl, h0, if_false, seen_gens, seen_len, ← hp]

theorem pollS_some {S : Bd} {task : Nat} {l : List Sb} {i : Nat} {s : Sb} (hl : S.subs.getD task [] = l) (h0 : l ≠ []) (hp : some i = pickS (S.seen l) (l.map fun s => S.gen s.topic) l.length) (hs : (S.seen l)[i]? = some s) :
    pollS S task = ({ S with subs := S.subs.set task ((S.seen l).set i { s with cu := takeS s.cu (S.gen s.topic) }) },
        { refS 0 with sub := i, gen := (seeS s.cu (S.gen s.topic)).next, words := (S.recs s.topic (seeS s.cu (S.gen s.topic)).next).getD [], count := countS (takeS s.cu (S.gen s.topic)) (S.gen s.topic), lost := (takeS s.cu (S.gen s.topic)).lost }) := by
  unfold pollS
  simp only [hl, h0, if_false, seen_gens, seen_len, ← hp, hs]

theorem pickS_has (l : List Sb) (gens : List Nat) : ∀ k j, pickS l gens k = some j → ∃ s g, l[j]? = some s ∧ gens[j]? = some g ∧ (seeS s.cu g).next ≤ g
  | 0, j, h => by cases h
  | k + 1, j, h => by
    unfold pickS at h
    split at h
    · rename_i s g hs hg
      split at h
      · exact pickS_has l gens k j h
      · rename_i hlt
        split at h
        · cases h; exact ⟨s, g, hs, hg, by omega⟩
        · rename_i i hi
          split at h
          · split at h
            · cases h; exact pickS_has l gens k _ hi
            · cases h; exact ⟨s, g, hs, hg, by omega⟩
          · cases h; exact ⟨s, g, hs, hg, by omega⟩
    · exact pickS_has l gens k j h

theorem clone_at (base : Nat) (A : Option Addr) (n c : Nat) (ws : List Int) (w : World) (hbase : base ≤ w.heap.size) (hn : n = ws.length) (hn1 : n ≤ 100) (h0 : n = 0 → A = none) (hr : Rd w (.slice A n c) 1 n (u64V ws)) :
    Calls Tryz.prog 63 #[.slice A n c] w fun e w' => ∃ v, e = .returned v ∧ w'.ownsRow base 39 1 v n (u64V ws) ∧ Below w.heap.size w w' := by
  refine (clone_u64 A n c ws w hn hn1 h0 hr).mono ?_
  rintro e w' ⟨v, rfl, h2, h3⟩
  exact ⟨v, rfl, own_base h2 hbase, h3⟩

set_option maxRecDepth 100000 in
set_option maxHeartbeats 3200000 in
theorem poll_do {k : Nat} {m : Mem} {S : Bd} (task : Nat) (c : Cl) (sv wv : Value) (w : World) (h : IsBd k w m S) (hk : k + 1 ≤ 1000000) (htask : task < S.tasks) :
    Calls Tryz.prog 35 #[.pointer (some ⟨m.bb, 0, none⟩), .int .i64 task, clV c sv wv] w fun e w' => DoPost (k + 1) w m (pollS S task) e w' := by
  have hB := h.blk
  have H := hide (h.mono (Nat.le_succ k) hk)
  have h7 : w.cell? ⟨m.bb, 7, none⟩ = some (.slice (some ⟨m.sb, 0, none⟩) S.tasks S.tasks) := (row13 hB).2.2.2.2.2.2.2.1
  have h5 : w.cell? ⟨m.bb, 5, none⟩ = some (.slice (some ⟨m.gb, 0, none⟩) S.gens.length m.gc) := (row13 hB).2.2.2.2.2.1
  have HM := hide h.lt
  have hbbl := block_lt hB
  have hsbl := block_lt h.subs
  have hgbl := h.lt m.gb (.inl (.inr (.inr (.inl rfl))))
  obtain ⟨A, n, cA, l, hv, hl, hld, hn, hn8, hrow, hcell, hok⟩ := h.row htask
  obtain ⟨T, hT⟩ : ∃ T, T = S.tasks := ⟨_, rfl⟩
  obtain ⟨N, hN⟩ : ∃ N, N = S.gens.length := ⟨_, rfl⟩
  have HT := hide hT
  have HN := hide hN
  rw [← hT] at h7 htask
  rw [← hN] at h5
  by_cases hn0 : n = 0
  · have hl0 : l = [] := List.eq_nil_of_length_eq_zero (by omega)
    have hcp : pollS S task = (S, refS 18) := by rw [pollS, hld]; simp only [hl0, if_true]
    rw [hcp]
    subst hn0
    clear h hcp hB h5 hv hl hld hn hrow hok hT hN hl0
    go_enter Tryz.func35, Tryz.ntmps35
    go_wp2_with fail
    refine (refused_any 18 _).mono ?_
    rintro e w2 ⟨rfl, hb2⟩
    obtain ⟨hc2, hf2, hz2⟩ := bcell hb2
    go_wp2
    have hresl : Tryz.f35.results = #[.cell 6 44] := by kernel_rfl
    refine bodyPost_ret (v := anR 18) ?_ rfl ?_
    · simp only [results, hresl]
      go_simp
    · exact post_plain H.out (set12_below ((below_new2 w _ _).trans (hb2.mono (by simp; omega))) (Nat.le_succ _) _ _ _ _ _ _ _ _ _ _ _ _) rfl rfl
  · have hn1 : 1 ≤ n := by omega
    obtain ⟨b, c', hvs, -, hbl⟩ := hrow.form (by omega)
    have hnc : n ≤ cA ∧ cA ≤ maxLen := by obtain ⟨A', c2, hv2, h1, h2, -⟩ := (Rd.of_own hrow).shape; cases hv2; exact ⟨h1, h2⟩
    cases hvs
    have hmk := fun x => make_u64 n (by omega) x
    have HI := hide h
    have Hv := hide hv
    have Hl := hide hl
    have Hld := hide hld
    have Hn := hide hn
    have Hrow := hide hrow
    have Hok := hide hok
    have hnz : ((n : Int) == 0) = false := by simp; omega
    clear h hB hv hl hld hn hrow hok hT hN
    go_enter Tryz.func35, Tryz.ntmps35
    go_wp2_with fail
    obtain ⟨Z, hZ⟩ : ∃ Z, Z = ((w.alloc (clO c sv wv)).alloc anZ).alloc (.cells (madeCells #[.int .u64 0] n) 39) := ⟨_, rfl⟩
    have hZb : Below w.heap.size w Z := by rw [hZ]; exact below2 (below_new2 w _ _) (below_new _ _)
    have hZ5 : Z.heap[w.heap.size]? = some (clO c sv wv) := by rw [hZ]; exact alloc_was _ _ _ _ (heap_two w _ _).1
    have hZ6 : Z.heap[w.heap.size + 1]? = some anZ := by rw [hZ]; exact alloc_was _ _ _ _ (heap_two w _ _).2
    have hZ7 : Z.heap[w.heap.size + 1 + 1]? = some (.cells (madeCells #[.int .u64 0] n) 39) := by rw [hZ]; have := heap_alloc_new ((w.alloc (clO c sv wv)).alloc anZ) (.cells (madeCells #[.int .u64 0] n) 39); simpa only [alloc_size] using this
    rw [← hZ]
    have HZ := hide hZ
    clear hZ
    obtain ⟨t0, t1, t2, t3, t4, t5, t6, t7, t8, t9, t10, tf, tl⟩ := row11 hZ5
    obtain ⟨a0, a1, a2, a3, a4, a5, a6, a7, a8, a9, a10, a11, af, al⟩ := row12 hZ6
    clear t0 t1 t2 t3 t4 t5 t6 t7 t8 t9 t10 a0 a1 a2 a3 a4 a5 a6 a7 a8 a9 a10 a11
    have hg8z : w.heap.size + 1 + 1 < Z.heap.size := block_lt hZ7
    generalize hg8e : w.heap.size + 1 + 1 = g8 at *
    have hg8l : w.heap.size + 1 < g8 := by omega
    clear hg8e
    have hgz : Z.ownsRow 0 39 1 (.slice (some ⟨g8, 0, none⟩) n n) n (natL (gensUpTo S l 0)) := by
      refine ⟨by rw [natL_len, gensUpTo_len _ _ _ (Nat.zero_le _), ← Hn.out]; simp, .inr ⟨g8, n, _, rfl, Nat.zero_le _, hZ7, Nat.le_refl _, by unfold maxLen; omega, by simp [size_madeCells], ?_⟩⟩
      rw [made_list]
      simp [gensUpTo, natL, ← Hn.out]
    have hrz : Z.ownsRow 0 137 6 (.slice (some ⟨b, 0, none⟩) n cA) n (flatSb (seenUpTo S l 0)) := by
      rw [show seenUpTo S l 0 = l by simp [seenUpTo, Bd.seen]]
      exact own_keepAt Hrow.out (fun q hq => by cases hq; exact hZb.block b hbl)
    have hbg8 : b ≠ g8 := by omega
    go_loopw [33] (fun i wr => ∃ j : Nat, j ≤ n ∧ i = .int .i64 j ∧ Fr Z b g8 wr ∧ wr.ownsRow 0 137 6 (.slice (some ⟨b, 0, none⟩) n cA) n (flatSb (seenUpTo S l j)) ∧ wr.ownsRow 0 39 1 (.slice (some ⟨g8, 0, none⟩) n n) n (natL (gensUpTo S l j))) (fun i _ => n - (intOf i).toNat)
    case atStart => exact ⟨0, Nat.zero_le _, rfl, Fr.refl _ _ _, hrz, hgz⟩
    case round =>
      obtain ⟨j, hj, rfl, hfr, hrj, hgj⟩ := hrel
      by_cases hlt : j < n
      · have hlen : n = (seenUpTo S l j).length := by rw [seenUpTo_len]; exact Hn.out
        obtain ⟨b', o', c', s', hs', hv', -, -, hbr, d0, d1, d2, d3, d4, d5⟩ := (Rd.of_own hrj).six hlen hlt
        cases hv'
        simp only [Nat.zero_add] at d0 d1 d2 d3 d4 d5
        obtain ⟨s, hs⟩ : ∃ s, l[j]? = some s := ⟨l[j]'(by have := Hn.out; omega), by simp⟩
        have hse : s' = s := by have := seenUpTo_at S l j s hs; rw [hs'] at this; exact Option.some.inj this
        subst hse
        obtain ⟨hst, f0, f1, f2, f3, f4, f5, f6⟩ := Hok.out s' (List.mem_of_getElem? hs)
        have hG := HI.out.gen_cell hst
        have hgk := HI.out.gen_le s'.topic
        have hkk := HI.out.kk
        have hstep1 := hide (seenUpTo_step S l j s' hs)
        have hstep2 := hide (gensUpTo_step S l j s' hs)
        obtain ⟨G, hGe⟩ : ∃ G, G = S.gen s'.topic := ⟨_, rfl⟩
        rw [← hGe] at hG hgk hstep1 hstep2
        obtain ⟨a', d', hS, hle, ha', HSee⟩ := see_some s'.cu.next s'.cu.cap s'.cu.got s'.cu.lost G f2 f3 f4 f6 (by omega)
        have HSee := hide HSee
        have hcu : s'.cu = ⟨s'.cu.next, s'.cu.cap, s'.cu.got, s'.cu.lost⟩ := rfl
        have hsee := hide (show seeS s'.cu G = ⟨a', s'.cu.cap, s'.cu.got, d'⟩ by rw [hcu, hS])
        have Hs' := hide hs'
        obtain ⟨t, ht⟩ : ∃ t, t = s'.topic := ⟨_, rfl⟩
        obtain ⟨r, hr⟩ : ∃ t, t = s'.rank := ⟨_, rfl⟩
        obtain ⟨nx, hnx⟩ : ∃ t, t = s'.cu.next := ⟨_, rfl⟩
        obtain ⟨ca, hca⟩ : ∃ t, t = s'.cu.cap := ⟨_, rfl⟩
        obtain ⟨go, hgo⟩ : ∃ t, t = s'.cu.got := ⟨_, rfl⟩
        obtain ⟨lo, hlo⟩ : ∃ t, t = s'.cu.lost := ⟨_, rfl⟩
        rw [← ht] at d0 hG hst
        rw [← hr] at d1
        rw [← hnx] at d2 HSee
        rw [← hca] at d3 HSee hsee
        rw [← hgo] at d4 HSee hsee
        rw [← hlo] at d5 HSee
        have htN : (t : Int) < (N : Int) := by have := HN.out; omega
        have hji : (j : Int) < (n : Int) := by omega
        have hrow := HI.out.rown _ (List.mem_of_getElem? Hv.out) b rfl
        have hbb8 : m.bb ≠ g8 := by omega
        have hgb8 : m.gb ≠ g8 := by omega
        have hbbz := Nat.lt_of_lt_of_le hbbl hZb.size
        have hgbz := Nat.lt_of_lt_of_le hgbl hZb.size
        have x5 := (World.cell?_of_block (a := ⟨m.bb, 5, none⟩) (hfr.block _ hbbz (Ne.symm hrow.1) hbb8)).trans ((hZb.cell (p := ⟨m.bb, 5, none⟩) hbbl).trans h5)
        have xg := (World.cell?_of_block (a := ⟨m.gb, t, none⟩) (hfr.block _ hgbz (Ne.symm hrow.2.2.1) hgb8)).trans ((hZb.cell (p := ⟨m.gb, t, none⟩) hgbl).trans hG)
        have xbl : m.bb < wr.heap.size := Nat.lt_of_lt_of_le hbbz hfr.size
        have xgl : m.gb < wr.heap.size := Nat.lt_of_lt_of_le hgbz hfr.size
        have x8l : g8 < wr.heap.size := Nat.lt_of_lt_of_le hg8z hfr.size
        have hglen := gensUpTo_len S l j (by have := Hn.out; omega)
        obtain ⟨gv, hgv⟩ : ∃ q, (gensUpTo S l j)[j]? = some q := ⟨(gensUpTo S l j)[j]'(by have := Hn.out; omega), by simp⟩
        have x8 : wr.cell? ⟨g8, j, none⟩ = some (.int .u64 gv) := by
          obtain ⟨b0, o0, c0, hv0, -, -, -, hc0⟩ := (Rd.of_own hgj).open_ (by omega)
          cases hv0
          have := hc0 j _ (natL_at _ _ _ hgv)
          simpa using this
        have x8f : wr.frozen? ⟨g8, j, none⟩ = false := by
          rcases hgj.2 with ⟨hv0, -⟩ | ⟨g', cap', cur, hv0, -, hg0, -⟩
          · cases hv0
          · cases hv0; exact frozen_of hg0 j
        have hGe' := hide hGe
        have Hht := hide ht
        clear hs' hs f0 f1 f2 f3 f4 f5 f6 hS hle ha' hcu ht hr hnx hca hgo hlo hgk hkk hG hGe hglen hgv hlen
        go_wp2_with fail
        obtain ⟨Y, hY⟩ : ∃ Y, Y = wr.alloc (.cells #[.int .i64 t, .int .i64 r, .int .u64 nx, .int .i64 ca, .int .u64 go, .int .u64 lo] 137) := ⟨_, rfl⟩
        have hYr : Y.heap[wr.heap.size]? = some (.cells #[.int .i64 t, .int .i64 r, .int .u64 nx, .int .i64 ca, .int .u64 go, .int .u64 lo] 137 (0, 0)) := by rw [hY]; exact heap_alloc_new _ _
        have hYB : Below wr.heap.size wr Y := by rw [hY]; exact below_new wr _
        rw [← hY]
        clear hY
        obtain ⟨z0, z1, z2, z3, z4, z5, zf, zl⟩ := row6 hYr
        have y5 := (hYB.cell (p := ⟨m.bb, 5, none⟩) xbl).trans x5
        have yg := (hYB.cell (p := ⟨m.gb, t, none⟩) xgl).trans xg
        have y8 := (hYB.cell (p := ⟨g8, j, none⟩) x8l).trans x8
        have y8f := (hYB.frozen (p := ⟨g8, j, none⟩) x8l).trans x8f
        have ybl : m.bb < Y.heap.size := Nat.lt_of_lt_of_le xbl hYB.size
        have ygl : m.gb < Y.heap.size := Nat.lt_of_lt_of_le xgl hYB.size
        have y8l : g8 < Y.heap.size := Nat.lt_of_lt_of_le x8l hYB.size
        clear x5 xg x8 x8f d0 d1 d2 d3 d4 d5
        go_region
        generalize hU : (Y.setCell ⟨g8, j, none⟩ (.int .u64 G)).drew = U
        have hY10 : wr.heap.size ≠ g8 := by omega
        have hFrU : Fr Z b g8 U := by
          rw [← hU]
          have h1 := (hfr.below hYB).set ⟨g8, j, none⟩ (.int .u64 G) (.inr rfl)
          exact ⟨h1.os, h1.tape, h1.output, h1.size, h1.block⟩
        have hUo : ∀ q, q ≠ g8 → U.heap[q]? = Y.heap[q]? := fun q hq => by rw [← hU]; exact Below.heap_setCell Y ⟨g8, j, none⟩ _ _ hq
        have hrU : U.ownsRow 0 137 6 (.slice (some ⟨b, 0, none⟩) n cA) n (flatSb (seenUpTo S l j)) := own_keepAt (own_below hrj hYB) (fun q hq => by cases hq; exact hUo b hbg8)
        have hgU : U.ownsRow 0 39 1 (.slice (some ⟨g8, 0, none⟩) n n) n (natL (gensUpTo S l (j + 1))) := by
          rw [← hstep2.out, ← natL_set, ← hU]
          exact own_set1 (own_below hgj hYB) hlt
        have hUs : Y.heap.size ≤ U.heap.size := by rw [← hU]; show _ ≤ (Y.setCell _ _).heap.size; simp
        have hUr := (hUo _ hY10).trans hYr
        have ug : U.cell? ⟨g8, j, none⟩ = some (.int .u64 G) := by
          rw [← hU]
          show (Y.setCell ⟨g8, j, none⟩ (.int .u64 G)).cell? ⟨g8, j, none⟩ = _
          exact World.cell?_setCell_same _ _ _ y8
        clear hU y5 yg y8 y8f z0 z1 z2 z3 z4 z5 zf
        obtain ⟨z0, z1, z2, z3, z4, z5, zf, zl'⟩ := row6 hUr
        have ugl : g8 < U.heap.size := Nat.lt_of_lt_of_le y8l hUs
        have HFrU := hide hFrU
        have HrU := hide hrU
        have HgU := hide hgU
        clear hFrU hrU hgU hgj hrj hfr hYr hUr
        generalize hg10 : wr.heap.size = g10 at *
        clear hg10
        have HK : ∀ x, Below U.heap.size U x → x.cell? ⟨g10, 2, none⟩ = some (.int .u64 nx) ∧ x.cell? ⟨g10, 3, none⟩ = some (.int .i64 ca) ∧ x.cell? ⟨g10, 4, none⟩ = some (.int .u64 go) ∧ x.cell? ⟨g10, 5, none⟩ = some (.int .u64 lo) ∧ x.cell? ⟨g8, j, none⟩ = some (.int .u64 G) ∧ Below U.heap.size U x :=
          fun x hB => ⟨(hB.cell (p := ⟨g10, 2, none⟩) zl').trans z2, (hB.cell (p := ⟨g10, 3, none⟩) zl').trans z3, (hB.cell (p := ⟨g10, 4, none⟩) zl').trans z4, (hB.cell (p := ⟨g10, 5, none⟩) zl').trans z5, (hB.cell (p := ⟨g8, j, none⟩) ugl).trans ug, hB⟩
        have HK1 := HK _ (Below.refl _ U).drew
        have hZa : ∀ x, Below (U.alloc (.cells #[.int .u64 0, .int .i64 0, .int .u64 0, .int .u64 0] 133)).drew.heap.size (U.alloc (.cells #[.int .u64 0, .int .i64 0, .int .u64 0, .int .u64 0] 133)).drew x → x.heap[U.heap.size]? = some (.cells #[.int .u64 0, .int .i64 0, .int .u64 0, .int .u64 0] 133 (0, 0)) :=
          fun x hx => (hx.block U.heap.size (by simp)).trans (heap_alloc_new U (.cells #[.int .u64 0, .int .i64 0, .int .u64 0, .int .u64 0] 133))
        go_wp2_with fail
        go_region_held3 (fun x => x.cell? ⟨g10, 2, none⟩ = some (.int .u64 nx) ∧ x.cell? ⟨g10, 3, none⟩ = some (.int .i64 ca) ∧ x.cell? ⟨g10, 4, none⟩ = some (.int .u64 go) ∧ x.cell? ⟨g10, 5, none⟩ = some (.int .u64 lo) ∧ x.cell? ⟨g8, j, none⟩ = some (.int .u64 G) ∧ Below U.heap.size U x)
          (first | with_reducible assumption | with_reducible exact HK1 | (refine HK _ ?_; (repeat refine Below.setCell ?_ (by simp) _); first | with_reducible assumption | exact below_of_drew hb2 | exact below2 (below_new U _) (below_of_drew hb2) | exact below2 (below_of_drew hb2) (below_new w2 _) | exact (below_new U _).drew | exact below_new U _))
          (first | (go_at_call 66; refine (HSee.out _).mono ?_; rintro e w2 ⟨rfl, hb2⟩; try (have hy := hZa w2 hb2; obtain ⟨y0, y1, y2, y3, yf, yl⟩ := row4 hy)))
        all_goals first
          | (have hx0 := heap_alloc_new w2 (.cells #[.int .u64 a', .int .i64 ca, .int .u64 go, .int .u64 d'] 133)
             have hxB : Below U.heap.size U (w2.alloc (.cells #[.int .u64 a', .int .i64 ca, .int .u64 go, .int .u64 d'] 133)) := below2 (below_of_drew hb2) (below_new w2 _)
             clear hb2
             generalize w2.alloc (.cells #[.int .u64 a', .int .i64 ca, .int .u64 go, .int .u64 d'] 133) = wx at *
             generalize w2.heap.size = gx at *)
          | (obtain ⟨wx, hwx⟩ : ∃ wx, wx = ((((w2.setCell ⟨U.heap.size, 0, none⟩ (.int .u64 a')).setCell ⟨U.heap.size, 1, none⟩ (.int .i64 ca)).setCell ⟨U.heap.size, 2, none⟩ (.int .u64 go)).setCell ⟨U.heap.size, 3, none⟩ (.int .u64 d')) := ⟨_, rfl⟩
             have hx0 : wx.heap[U.heap.size]? = some (.cells #[.int .u64 a', .int .i64 ca, .int .u64 go, .int .u64 d'] 133) := (by rw [hwx]; exact set4 hy (.int .u64 a') (.int .i64 ca) (.int .u64 go) (.int .u64 d'))
             have hxB : Below U.heap.size U wx := (by rw [hwx]; exact ((((below2 (below_new U _) (below_of_drew hb2)).setCell (Nat.le_refl _) _).setCell (Nat.le_refl _) _).setCell (Nat.le_refl _) _).setCell (Nat.le_refl _) _)
             rw [← hwx]
             clear hb2 hy y0 y1 y2 y3 yf yl hwx)
        all_goals (
          obtain ⟨e0, e1, e2, e3, ef, el⟩ := row4 hx0
          have hrx := own_below HrU.out hxB
          have hgx := own_below HgU.out hxB
          obtain ⟨b', o', c', s2, hs2, hv2, -, -, hbx, -, -, r2, r3, r4, r5⟩ := (Rd.of_own hrx).six (show n = (seenUpTo S l j).length by rw [seenUpTo_len]; exact Hn.out) hlt
          cases hv2
          simp only [Nat.zero_add] at r2 r3 r4 r5
          have hrf : ∀ i, wx.frozen? ⟨b, i, none⟩ = false := (by
            rcases hrx.2 with ⟨hv0, -⟩ | ⟨g', cap', cur, hv0, -, hg0, -⟩
            · cases hv0
            · cases hv0; exact frozen_of hg0)
          have hgxb : b < U.heap.size := Nat.lt_of_lt_of_le (Nat.lt_of_lt_of_le hbl hZb.size) HFrU.out.size
          have HFrx := hide (HFrU.out.below hxB)
          have Hrx := hide hrx
          have Hgx := hide hgx
          have Hxlt := hide hxB.size
          try clear HK HK1 hZa
          clear hrx hgx hx0 hxB z0 z1 z2 z3 z4 z5 zf ug HSee
          go_wp2
          go_roundw
          case rel =>
            refine ⟨j + 1, by omega, by go_num, (((HFrx.out.set _ _ (.inl rfl)).set _ _ (.inl rfl)).set _ _ (.inl rfl)).set _ _ (.inl rfl), ?_, ?_⟩
            · rw [← hstep1.out, hsee.out]
              exact own_cu ⟨a', ca, go, d'⟩ Hrx.out (by omega) Hs'.out
            · refine own_keepAt Hgx.out (fun q hq => ?_)
              have hq8 : g8 ≠ b := Ne.symm hbg8
              cases hq
              rw [Below.heap_setCell _ _ _ _ hq8, Below.heap_setCell _ _ _ _ hq8, Below.heap_setCell _ _ _ _ hq8, Below.heap_setCell _ _ _ _ hq8]
          case measure => simp [intOf]; omega)
      · have hjn : j = n := by omega
        subst hjn
        clear hlt
        have hse := seenUpTo_end S l
        have hge := gensUpTo_end S l
        rw [← Hn.out] at hse hge
        rw [hse] at hrj
        rw [hge] at hgj
        clear hse hge hrz hgz
        have hlm := List.mem_of_getElem? Hl.out
        have hsok := seen_ok HI.out hlm
        have hkk := HI.out.kk
        have htl := HI.out.inv.tlen
        have hP := pick_any (S.seen l) (l.map fun s => S.gen s.topic) (.slice (some ⟨b, 0, none⟩) j cA) (.slice (some ⟨g8, 0, none⟩) j j) j wr (by rw [seen_len]; exact Hn.out) (by omega) (by rw [List.length_map]; exact Hn.out.symm) (Rd.of_own hrj) (Rd.of_own hgj)
          (fun s hs => by have := hsok s hs; unfold Sb.fit; omega) (fun g hg => by obtain ⟨s0, -, rfl⟩ := List.mem_map.1 hg; have := HI.out.gen_le s0.topic; omega)
        obtain ⟨P, hPe⟩ : ∃ P, P = pickS (S.seen l) (l.map fun s => S.gen s.topic) j := ⟨_, rfl⟩
        rw [← hPe] at hP
        have HP := hide hP
        have HPe := hide hPe
        have Hsok := hide hsok
        have Hrj := hide hrj
        have Hgj := hide hgj
        have Hfr := hide hfr
        clear hP hPe hsok hrj hgj hfr
        cases P with
        | none =>
          simp only [bestV] at HP
          go_wp2_with fail
          refine HP.out.mono ?_
          rintro e w1 ⟨rfl, hb1⟩
          go_wp2_with fail
          refine (refused_any 14 _).mono ?_
          rintro e w2 ⟨rfl, hb2⟩
          have hb12 : Below wr.heap.size wr w2 := below2 hb1 hb2
          have hFx := Hfr.out.below hb12
          have hT6 : w2.heap[w.heap.size + 1]? = some anZ := (hb12.block _ (Nat.lt_of_lt_of_le al Hfr.out.size)).trans ((Hfr.out.block _ al (by omega) (by omega)).trans hZ6)
          obtain ⟨b0, b1, b2, b3, b4, b5, b6, b7, b8, b9, b10, b11, bf, bl⟩ := row12 hT6
          have HFx := hide hFx
          have Hrx := hide (own_below Hrj.out hb12)
          clear hFx hb12 hb2 hb1
          go_wp2
          have hresl : Tryz.f35.results = #[.cell 6 44] := by kernel_rfl
          refine bodyPost_ret (v := anR 14) ?_ rfl ?_
          · simp only [results, hresl]
            go_simp
          · obtain ⟨hIs, hTu, hOw⟩ := row_left HI.out hk hZb Hv.out (l' := S.seen l) (by rw [seen_len]; exact Hn.out) hn8 (fun s hs => by have := Hsok.out s hs; omega) (by omega) HFx.out Hrx.out
            have hPn := HPe.out
            rw [pollS_none Hld.out (fun e => by have := Hn.out; rw [e] at this; simp at this; omega) (by rw [← Hn.out]; exact hPn)]
            obtain ⟨s1, s2, s3, s4⟩ := set12_same w2 (w.heap.size + 1) (.int .i64 14) (.int .i64 0) (.int .u64 0) (.int .i64 0) (.int .u64 0) (.int .i64 0) (.int .i64 0) (.bool false) (.int .i64 0) (.int .u64 0) (.slice none 0 0) (.slice none 0 0)
            exact post_up2 (a := refS 14) (gv := nilS) (wv := nilS) hIs hTu (Nat.le_succ _) (fun i hi e => by
                rcases hi with hi | hi
                · have := HM.out i (.inl (hOw i hi)); omega
                · have := HM.out i (.inr (setRow_ro hi)); omega)
              (World.ownsRow_nil _ _ _ _) (World.ownsRow_nil _ _ _ _) (fun q hq => by rcases hq with hq | hq <;> cases hq) (fun q hq => by rcases hq with hq | hq <;> cases hq) s1 s2 s3 s4 (fun i hi => set12_other hi _ _ _ _ _ _ _ _ _ _ _ _)
        | some i =>
          simp only [bestV] at HP
          obtain ⟨s, g0, hsl, hgl, hle⟩ := pickS_has _ _ _ _ HPe.out.symm
          have hg0 : g0 = S.gen s.topic := by
            rw [← seen_gens S l, List.getElem?_map, hsl] at hgl
            simpa using hgl.symm
          subst hg0
          have hij := pickS_lt _ _ _ _ HPe.out.symm
          obtain ⟨f0, f1, f2, f3, f4, f5⟩ := Hsok.out s (List.mem_of_getElem? hsl)
          have hgk := HI.out.gen_le s.topic
          have hkk := HI.out.kk
          have htlen := HI.out.inv.tlen
          have Hpoll := hide (pollS_some Hld.out (fun e => by have := Hn.out; rw [e] at this; simp at this; omega) (by rw [← Hn.out]; exact HPe.out) hsl)
          have hinv := seeS_inv f5 f4 hgk f2
          have hsn := seeS_next s.cu (S.gen s.topic)
          have HLk := hide (HI.out.look s.topic (seeS s.cu (S.gen s.topic)).next)
          have HLr := hide (fun (w' : World) (hw : w'.heap[m.rb]? = w.heap[m.rb]?) => HI.out.lookup (w' := w') (t := s.topic) (g := (seeS s.cu (S.gen s.topic)).next) (by omega) (by omega) hw)
          obtain ⟨⟨a, bq, cq, d⟩, hcu⟩ : ∃ X, X = s.cu := ⟨_, rfl⟩
          rw [← hcu] at f2 f3 f4 f5 hle hinv hsn HLk HLr
          simp only at f2 f3 f4 f5
          obtain ⟨G, hGe⟩ : ∃ G, G = S.gen s.topic := ⟨_, rfl⟩
          rw [← hGe] at hle hinv hsn hgk HLk HLr
          have HTake := hide (fun w => take_any a bq cq d G w f2 f3 (by omega) (by omega) (by omega) (by omega) hle)
          obtain ⟨gn, hgn⟩ : ∃ q, q = (seeS ⟨a, bq, cq, d⟩ G).next := ⟨_, rfl⟩
          have hxe : takeS ⟨a, bq, cq, d⟩ G = ⟨gn + 1, (seeS ⟨a, bq, cq, d⟩ G).cap, (seeS ⟨a, bq, cq, d⟩ G).got + 1, (seeS ⟨a, bq, cq, d⟩ G).lost⟩ := by rw [hgn]; rfl
          obtain ⟨⟨x1, x2, x3, x4⟩, hX⟩ : ∃ X, X = takeS ⟨a, bq, cq, d⟩ G := ⟨_, rfl⟩
          rw [← hX] at HTake hxe
          rw [← hgn] at HTake hle hinv hsn HLk HLr
          simp only [Cu.mk.injEq] at hxe
          obtain ⟨e1, e2, e3, e4⟩ := hxe
          have hx2 : 1 ≤ x2 ∧ x2 ≤ 15 := by rw [e2, hinv.2.2]; exact ⟨f2, f3⟩
          have hx1 : x1 ≤ k + 2 := by omega
          have hx34 : x3 + x4 + 1 ≤ x1 := by have := hinv.2.1; omega
          have HCo := hide (fun w => count_any x1 x2 x3 x4 G w hx2.1 hx2.2 (by omega) (by omega) (by omega))
          obtain ⟨C, hC⟩ : ∃ C, C = countS ⟨x1, x2, x3, x4⟩ G := ⟨_, rfl⟩
          rw [← hC] at HCo
          obtain ⟨LA, ln, lc, hlv, hln, hl100, hlR, hl0, hlq⟩ := HLk.out
          rw [hlv] at HLr
          have hpoll := Hpoll.out
          rw [← hcu, ← hGe, ← hX, ← hgn, ← hC] at hpoll
          obtain ⟨ws, hws⟩ : ∃ ws, ws = (S.recs s.topic gn).getD [] := ⟨_, rfl⟩
          rw [← hws] at hlR hln hpoll
          have Hws := hide hws
          have Hpol := hide hpoll
          clear hpoll hws Hpoll
          have hs' : s = ⟨s.topic, s.rank, ⟨a, bq, cq, d⟩⟩ := by rw [hcu]
          have hIi : (i : Int) < (j : Int) := by omega
          have hi0 : decide ((i : Int) < 0) = false := by simp
          go_wp2_with fail
          refine HP.out.mono ?_
          rintro e w1 ⟨rfl, hb1⟩
          have hr1 := own_below Hrj.out hb1
          have hg1 := own_below Hgj.out hb1
          have hF1 := Hfr.out.below hb1
          obtain ⟨b', o', c', s2, hs2, hv2, -, -, hbx, d0, d1, d2, d3, d4, d5⟩ := (Rd.of_own hr1).six (show j = (S.seen l).length by rw [seen_len]; exact Hn.out) hij
          cases hv2
          obtain rfl : s = s2 := by rw [hsl] at hs2; exact Option.some.inj hs2
          simp only [Nat.zero_add] at d0 d1 d2 d3 d4 d5
          rw [← hcu] at d2 d3 d4 d5
          simp only at d2 d3 d4 d5
          have hg8w : g8 < w1.heap.size := Nat.lt_of_lt_of_le hg8z hF1.size
          have yg : w1.cell? ⟨g8, i, none⟩ = some (.int .u64 G) := by
            obtain ⟨b0, o0, c0, hv0, -, -, -, hc0⟩ := (Rd.of_own hg1).open_ (by omega)
            cases hv0
            have := hc0 i _ (natL_at _ _ _ hgl)
            rw [← hGe] at this
            simpa using this
          obtain ⟨t, ht⟩ : ∃ t, t = s.topic := ⟨_, rfl⟩
          rw [← ht] at d0 HLr f0
          have Hs2 := hide hs2
          have Hr1 := hide hr1
          have Hg1 := hide hg1
          have HF1 := hide hF1
          have Ht := hide ht
          have Hcu := hide hcu
          have HGe := hide hGe
          have Hgn := hide hgn
          have HX := hide hX
          have HC := hide hC
          have Hhle := hide hle
          have Hf0 := hide f0
          have Hf1 := hide f1
          clear hs2 hr1 hg1 hF1 ht hcu hGe hgn hX hC hsl hgl f0 f1 f4 f5 hinv hsn hs' hle hlv e1 e2 e3 e4 HLk d1
          have HK : ∀ x, Below w1.heap.size w1 x → x.cell? ⟨b, i * 6 + 2, none⟩ = some (.int .u64 a) ∧ x.cell? ⟨b, i * 6 + 3, none⟩ = some (.int .i64 bq) ∧ x.cell? ⟨b, i * 6 + 4, none⟩ = some (.int .u64 cq) ∧ x.cell? ⟨b, i * 6 + 5, none⟩ = some (.int .u64 d) ∧ x.cell? ⟨g8, i, none⟩ = some (.int .u64 G) ∧ Below w1.heap.size w1 x :=
            fun x hB => ⟨(hB.cell (p := ⟨b, i * 6 + 2, none⟩) hbx).trans d2, (hB.cell (p := ⟨b, i * 6 + 3, none⟩) hbx).trans d3, (hB.cell (p := ⟨b, i * 6 + 4, none⟩) hbx).trans d4, (hB.cell (p := ⟨b, i * 6 + 5, none⟩) hbx).trans d5, (hB.cell (p := ⟨g8, i, none⟩) hg8w).trans yg, hB⟩
          have HK1 := HK _ (Below.refl _ w1).drew
          have hZa : ∀ x, Below (w1.alloc (.cells #[.int .u64 0, .int .i64 0, .int .u64 0, .int .u64 0] 133)).drew.heap.size (w1.alloc (.cells #[.int .u64 0, .int .i64 0, .int .u64 0, .int .u64 0] 133)).drew x → x.heap[w1.heap.size]? = some (.cells #[.int .u64 0, .int .i64 0, .int .u64 0, .int .u64 0] 133 (0, 0)) :=
            fun x hx => (hx.block w1.heap.size (by simp)).trans (heap_alloc_new w1 (.cells #[.int .u64 0, .int .i64 0, .int .u64 0, .int .u64 0] 133))
          go_wp2_with fail
          go_region_held3 (fun x => x.cell? ⟨b, i * 6 + 2, none⟩ = some (.int .u64 a) ∧ x.cell? ⟨b, i * 6 + 3, none⟩ = some (.int .i64 bq) ∧ x.cell? ⟨b, i * 6 + 4, none⟩ = some (.int .u64 cq) ∧ x.cell? ⟨b, i * 6 + 5, none⟩ = some (.int .u64 d) ∧ x.cell? ⟨g8, i, none⟩ = some (.int .u64 G) ∧ Below w1.heap.size w1 x)
            (first | with_reducible assumption | with_reducible exact HK1 | (refine HK _ ?_; (repeat refine Below.setCell ?_ (by simp) _); first | with_reducible assumption | exact below_of_drew hb2 | exact below2 (below_new w1 _) (below_of_drew hb2) | exact below2 (below_of_drew hb2) (below_new w2 _) | exact (below_new w1 _).drew | exact below_new w1 _))
            (first | (go_at_call 68; refine (HTake.out _).mono ?_; rintro e w2 ⟨rfl, hb2⟩; try (have hy := hZa w2 hb2; obtain ⟨y0, y1, y2, y3, yf, yl⟩ := row4 hy)))
          all_goals first
            | (have hx0 := heap_alloc_new w2 (.cells #[.int .u64 x1, .int .i64 x2, .int .u64 x3, .int .u64 x4] 133)
               have hxB : Below w1.heap.size w1 (w2.alloc (.cells #[.int .u64 x1, .int .i64 x2, .int .u64 x3, .int .u64 x4] 133)) := below2 (below_of_drew hb2) (below_new w2 _)
               have hgx : w1.heap.size ≤ w2.heap.size := hb2.size
               clear hb2
               generalize w2.alloc (.cells #[.int .u64 x1, .int .i64 x2, .int .u64 x3, .int .u64 x4] 133) = wx at *
               generalize w2.heap.size = gx at *)
            | (obtain ⟨wx, hwx⟩ : ∃ wx, wx = ((((w2.setCell ⟨w1.heap.size, 0, none⟩ (.int .u64 x1)).setCell ⟨w1.heap.size, 1, none⟩ (.int .i64 x2)).setCell ⟨w1.heap.size, 2, none⟩ (.int .u64 x3)).setCell ⟨w1.heap.size, 3, none⟩ (.int .u64 x4)) := ⟨_, rfl⟩
               have hx0 : wx.heap[w1.heap.size]? = some (.cells #[.int .u64 x1, .int .i64 x2, .int .u64 x3, .int .u64 x4] 133) := (by rw [hwx]; exact set4 hy (.int .u64 x1) (.int .i64 x2) (.int .u64 x3) (.int .u64 x4))
               have hxB : Below w1.heap.size w1 wx := (by rw [hwx]; exact ((((below2 (below_new w1 _) (below_of_drew hb2)).setCell (Nat.le_refl _) _).setCell (Nat.le_refl _) _).setCell (Nat.le_refl _) _).setCell (Nat.le_refl _) _)
               rw [← hwx]
               obtain ⟨gx, hgxe⟩ : ∃ gx, gx = w1.heap.size := ⟨_, rfl⟩
               have hgx : w1.heap.size ≤ gx := Nat.le_of_eq hgxe.symm
               rw [← hgxe] at hx0
               rw [← hgxe]
               clear hb2 hy y0 y1 y2 y3 yf yl hwx hgxe)
          all_goals (
            obtain ⟨z0, z1, z2, z3, zf, zl⟩ := row4 hx0
            have hrx := own_below Hr1.out hxB
            obtain ⟨b', o', c', s2, hs2, hv2, -, -, hbx2, r0, -, r2, r3, r4, r5⟩ := (Rd.of_own hrx).six (show j = (S.seen l).length by rw [seen_len]; exact Hn.out) hij
            cases hv2
            obtain rfl : s = s2 := (by have := Hs2.out; rw [this] at hs2; exact Option.some.inj hs2)
            simp only [Nat.zero_add] at r0 r2 r3 r4 r5
            rw [← Hcu.out] at r2 r3 r4 r5
            rw [← Ht.out] at r0
            simp only at r2 r3 r4 r5
            have hrf : ∀ q, wx.frozen? ⟨b, q, none⟩ = false := (by
              rcases hrx.2 with ⟨hv0, -⟩ | ⟨g', cap', cur, hv0, -, hg0, -⟩
              · cases hv0
              · cases hv0; exact frozen_of hg0)
            have hFx := HF1.out.below hxB
            have hgxr := own_below Hg1.out hxB
            have xg := (hxB.cell (p := ⟨g8, i, none⟩) hg8w).trans yg
            have hgxb : gx ≠ b := by omega
            have hgx8 : gx ≠ g8 := by omega
            have HFx := hide hFx
            have Hrx := hide hrx
            have Hgxr := hide hgxr
            have Hxs := hide hxB.size
            try clear HK HK1 hZa
            clear hFx hrx hgxr hxB hs2 d0 d2 d3 d4 d5 yg
            go_wp2_with fail
            have hsz := Hxs.out
            obtain ⟨y, hy⟩ : ∃ y, y = ((((wx.setCell ⟨b, i * 6 + 2, none⟩ (.int .u64 x1)).setCell ⟨b, i * 6 + 3, none⟩ (.int .i64 x2)).setCell ⟨b, i * 6 + 4, none⟩ (.int .u64 x3)).setCell ⟨b, i * 6 + 5, none⟩ (.int .u64 x4)) := ⟨_, rfl⟩
            have hyo : ∀ q, q ≠ b → y.heap[q]? = wx.heap[q]? := fun q hq => by
              rw [hy, Below.heap_setCell _ _ _ _ hq, Below.heap_setCell _ _ _ _ hq, Below.heap_setCell _ _ _ _ hq, Below.heap_setCell _ _ _ _ hq]
            have hys : y.heap.size = wx.heap.size := by rw [hy]; simp
            have hyF : Fr Z b g8 y := by
              rw [hy]
              exact (((HFx.out.set _ _ (.inl rfl)).set _ _ (.inl rfl)).set _ _ (.inl rfl)).set _ _ (.inl rfl)
            have hyr := own_cu ⟨x1, x2, x3, x4⟩ Hrx.out (by omega) Hs2.out
            rw [← hy] at hyr
            rw [← hy]
            have p0 := (World.cell?_of_block (a := ⟨gx, 0, none⟩) (hyo gx hgxb)).trans z0
            have p1 := (World.cell?_of_block (a := ⟨gx, 1, none⟩) (hyo gx hgxb)).trans z1
            have p2 := (World.cell?_of_block (a := ⟨gx, 2, none⟩) (hyo gx hgxb)).trans z2
            have p3 := (World.cell?_of_block (a := ⟨gx, 3, none⟩) (hyo gx hgxb)).trans z3
            have pg := (World.cell?_of_block (a := ⟨g8, i, none⟩) (hyo g8 (Ne.symm hbg8))).trans xg
            obtain ⟨b', o', c', s3, hs3, hv3, -, -, hby, pt, -⟩ := (Rd.of_own hyr).six (show j = ((S.seen l).set i { s with cu := ⟨x1, x2, x3, x4⟩ }).length by rw [List.length_set, seen_len]; exact Hn.out) hij
            cases hv3
            obtain rfl : { s with cu := ⟨x1, x2, x3, x4⟩ } = s3 := (by
              rw [List.getElem?_set_self (by rw [seen_len]; have := Hn.out; omega)] at hs3
              exact Option.some.inj hs3)
            simp only [Nat.zero_add] at pt
            rw [← Ht.out] at pt
            have hrow := HI.out.rown _ (List.mem_of_getElem? Hv.out) b rfl
            have hrbl := HI.out.lt m.rb (.inl (.inr (.inl rfl)))
            have hbb8 : m.bb ≠ g8 := by omega
            have hrb8 : m.rb ≠ g8 := by omega
            have hbbz := Nat.lt_of_lt_of_le hbbl hZb.size
            have hrbz := Nat.lt_of_lt_of_le hrbl hZb.size
            have pb := (World.cell?_of_block (a := ⟨m.bb, 4, none⟩) (hyF.block _ hbbz (Ne.symm hrow.1) hbb8)).trans ((hZb.cell (p := ⟨m.bb, 4, none⟩) hbbl).trans (row13 HI.out.blk).2.2.2.2.1)
            have prb : y.heap[m.rb]? = w.heap[m.rb]? := (hyF.block _ hrbz (Ne.symm hrow.2.1) hrb8).trans (hZb.block _ hrbl)
            have hT6y : y.heap[w.heap.size + 1]? = some anZ := (hyF.block _ al (by omega) (by omega)).trans hZ6
            have hZy : Z.heap.size ≤ y.heap.size := hyF.size
            have hw1y : w1.heap.size ≤ y.heap.size := (by rw [hys]; exact hsz)
            have hgx6 : gx ≠ w.heap.size + 1 := (by have := HF1.out.size; omega)
            have hgxy : gx < y.heap.size := (by rw [hys]; exact zl)
            have hg8y : g8 < y.heap.size := Nat.lt_of_lt_of_le hg8w hw1y
            have hbby : m.bb < y.heap.size := Nat.lt_of_lt_of_le hbbz hZy
            have hrby : m.rb < y.heap.size := Nat.lt_of_lt_of_le hrbz hZy
            have h86 : g8 ≠ w.heap.size + 1 := by omega
            have hb6 : b ≠ w.heap.size + 1 := by omega
            have hbb6 : m.bb ≠ w.heap.size + 1 := by omega
            have hrb6 : m.rb ≠ w.heap.size + 1 := by omega
            have hR : ∀ x, Fr y (w.heap.size + 1) (w.heap.size + 1) x → Rd x (.slice LA ln lc) 1 ln (u64V ws) := fun x hx => hlR.keepAt (by have := hx.size; have := hZb.size; omega) (fun q hq => by
              have hro := hlq q hq
              have hql := HI.out.lt q (.inr hro)
              have hqb : q ≠ b := fun e => HI.out.disj b (.inr (.inr (.inr (.inr (.inr ⟨_, List.mem_of_getElem? Hv.out, rfl⟩))))) (e ▸ hro)
              have hqz := Nat.lt_of_lt_of_le hql hZb.size
              exact (hx.block q (Nat.lt_of_lt_of_le hqz hZy) (by omega) (by omega)).trans ((hyF.block q hqz hqb (by omega)).trans (hZb.block q hql)))
            have hFr : ∀ x, Below y.heap.size y x → Fr y (w.heap.size + 1) (w.heap.size + 1) x := fun x hx => (Fr.refl y _ _).below hx
            have HCl := hide (fun x (hx : Below y.heap.size y x) => clone_at y.heap.size LA ln lc ws x hx.size hln hl100 hl0 (hR x (hFr x hx)))
            have HK : ∀ x, Fr y (w.heap.size + 1) (w.heap.size + 1) x → x.cell? ⟨m.bb, 4, none⟩ = some (.map (some m.rb)) ∧ x.cell? ⟨b, i * 6, none⟩ = some (.int .i64 t) ∧ x.cell? ⟨gx, 0, none⟩ = some (.int .u64 x1) ∧ x.cell? ⟨gx, 1, none⟩ = some (.int .i64 x2) ∧ x.cell? ⟨gx, 2, none⟩ = some (.int .u64 x3) ∧ x.cell? ⟨gx, 3, none⟩ = some (.int .u64 x4) ∧ x.cell? ⟨g8, i, none⟩ = some (.int .u64 G) ∧ (Instr.lookup 73 (.map (some m.rb)) (kvV t gn) false).run Tryz.prog x = .ok (.slice LA ln lc) x ∧ Fr y (w.heap.size + 1) (w.heap.size + 1) x :=
              fun x hx => ⟨(World.cell?_of_block (a := ⟨m.bb, 4, none⟩) (hx.block _ hbby hbb6 hbb6)).trans pb, (World.cell?_of_block (a := ⟨b, i * 6, none⟩) (hx.block _ hby hb6 hb6)).trans pt, (World.cell?_of_block (a := ⟨gx, 0, none⟩) (hx.block _ hgxy hgx6 hgx6)).trans p0, (World.cell?_of_block (a := ⟨gx, 1, none⟩) (hx.block _ hgxy hgx6 hgx6)).trans p1, (World.cell?_of_block (a := ⟨gx, 2, none⟩) (hx.block _ hgxy hgx6 hgx6)).trans p2, (World.cell?_of_block (a := ⟨gx, 3, none⟩) (hx.block _ hgxy hgx6 hgx6)).trans p3, (World.cell?_of_block (a := ⟨g8, i, none⟩) (hx.block _ hg8y h86 h86)).trans pg, HLr.out x ((hx.block _ hrby hrb6 hrb6).trans prb), hx⟩
            have hT0 : y.drew.heap[w.heap.size + 1]? = some anZ := hT6y
            have hG0 : Below y.heap.size y y.drew := (Below.refl _ y).drew
            have HK1 := HK _ (hFr _ hG0)
            have Hyr := hide hyr
            have HyF := hide hyF
            have HhZy := hide hZy
            have Hln := hide hln
            clear hln p0 p1 p2 p3 pg pt pb prb hT6y hR hyr hyF hy hyo z0 z1 z2 z3 zf xg r0 r2 r3 r4 r5 hrf hrow
            go_region_held3 (fun x => x.cell? ⟨m.bb, 4, none⟩ = some (.map (some m.rb)) ∧ x.cell? ⟨b, i * 6, none⟩ = some (.int .i64 t) ∧ x.cell? ⟨gx, 0, none⟩ = some (.int .u64 x1) ∧ x.cell? ⟨gx, 1, none⟩ = some (.int .i64 x2) ∧ x.cell? ⟨gx, 2, none⟩ = some (.int .u64 x3) ∧ x.cell? ⟨gx, 3, none⟩ = some (.int .u64 x4) ∧ x.cell? ⟨g8, i, none⟩ = some (.int .u64 G) ∧ (Instr.lookup 73 (.map (some m.rb)) (kvV t gn) false).run Tryz.prog x = .ok (.slice LA ln lc) x ∧ Fr y (w.heap.size + 1) (w.heap.size + 1) x)
              (first | with_reducible assumption | with_reducible exact HK1 | (refine HK _ ?_; (repeat refine Fr.set ?_ _ _ (.inl rfl)); first | with_reducible assumption | exact hFr _ (by assumption)))
              (first
                | (go_at_call 63; refine (HCl.out _ (by assumption)).mono ?_; rintro e w3 ⟨v, rfl, hown, hb3⟩; obtain ⟨Av, kv, rfl, -⟩ := (Rd.of_own hown).shape; have hG3 : Below y.heap.size y w3 := below2 (by assumption) hb3; have hT3 : w3.heap[w.heap.size + 1]? = some anZ := Eq.trans (hb3.block (w.heap.size + 1) (block_lt (o := anZ) (by assumption))) (by assumption); obtain ⟨b0, b1, b2, b3, b4, b5, b6, b7, b8, b9, b10, b11, bf, bl⟩ := row12 hT3)
                | (go_at_call 69; refine (HCo.out _).mono ?_; rintro e w4 ⟨rfl, hb4⟩; have hG4 : Below y.heap.size y w4 := below2 (by assumption) hb4; have hT4 : w4.heap[w.heap.size + 1]? = some anZ := Eq.trans (hb4.block (w.heap.size + 1) (block_lt (o := anZ) (by assumption))) (by assumption); obtain ⟨b0, b1, b2, b3, b4, b5, b6, b7, b8, b9, b10, b11, bf, bl⟩ := row12 hT4))
            all_goals first
              | (have hO := own_below hown hb4
                 have hGX := hG4
                 clear hb3 hb4 hT3 hG3 hown
                 go_wp2
                 have hresl : Tryz.f35.results = #[.cell 6 44] := by kernel_rfl
                 refine bodyPost_ret (v := anV { refS 0 with sub := i, gen := gn, words := ws, count := C, lost := x4 } nilS (.slice Av ln kv)) ?_ rfl ?_
                 · simp only [results, hresl]
                   go_simp
                   simp [refS, rg0]
                 · obtain ⟨hIs, hTu, hOw⟩ := row_left HI.out hk hZb Hv.out (l' := (S.seen l).set i { s with cu := ⟨x1, x2, x3, x4⟩ }) (by rw [List.length_set, seen_len]; exact Hn.out) hn8 (fun s' hs' => by
                       rcases mem_set hs' with rfl | ⟨q, -, hq⟩
                       · have h1 := Hf0.out
                         have h2 := Hf1.out
                         rw [Ht.out] at h1
                         exact ⟨h1, h2, hx2.1, hx2.2, hx1, hx34⟩
                       · have := Hsok.out s' (List.mem_of_getElem? hq)
                         omega) (by omega) (HyF.out.below hGX) (own_below Hyr.out hGX)
                   rw [Hpol.out]
                   obtain ⟨s1, s2, s3, s4⟩ := set12_same w4 (w.heap.size + 1) (.int .i64 0) (.int .i64 i) (.int .u64 gn) (.int .i64 C) (.int .u64 x4) (.int .i64 0) (.int .i64 0) (.bool false) (.int .i64 0) (.int .u64 0) (.slice none 0 0) (.slice Av ln kv)
                   have hyw : w.heap.size + 1 < y.heap.size := Nat.lt_of_lt_of_le al HhZy.out
                   have hOX : w4.ownsRow w.heap.size 39 1 (.slice Av ln kv) ws.length (u64V ws) := by
                     rw [← Hln.out]
                     exact own_base hO (by omega)
                   exact post_up2 (a := { refS 0 with sub := i, gen := gn, words := ws, count := C, lost := x4 }) (gv := nilS) (wv := .slice Av ln kv) hIs hTu (Nat.le_succ _) (fun i hi e => by
                       rcases hi with hi | hi
                       · have := HM.out i (.inl (hOw i hi)); omega
                       · have := HM.out i (.inr (setRow_ro hi)); omega)
                     (World.ownsRow_nil _ _ _ _) hOX (fun q hq => by
                       rcases hq with hq | hq
                       · cases hq
                       · have h1 := (hO.lt q hq).1
                         exact ⟨fun hi => by have := HM.out q (.inl (hOw q hi)); omega, fun hi => by have := HM.out q (.inr (setRow_ro hi)); omega⟩) (fun q hq => by
                       rcases hq with hq | hq
                       · cases hq
                       · have h1 := (hO.lt q hq).1
                         omega) s1 s2 s3 s4 (fun i hi => set12_other hi _ _ _ _ _ _ _ _ _ _ _ _)
                 skip)
              | (have hO := hown
                 have hGX := hG3
                 go_wp2
                 have hresl : Tryz.f35.results = #[.cell 6 44] := by kernel_rfl
                 refine bodyPost_ret (v := anV { refS 0 with sub := i, gen := gn, words := ws, count := C, lost := x4 } nilS (.slice Av ln kv)) ?_ rfl ?_
                 · simp only [results, hresl]
                   go_simp
                   simp [refS, rg0]
                 · obtain ⟨hIs, hTu, hOw⟩ := row_left HI.out hk hZb Hv.out (l' := (S.seen l).set i { s with cu := ⟨x1, x2, x3, x4⟩ }) (by rw [List.length_set, seen_len]; exact Hn.out) hn8 (fun s' hs' => by
                       rcases mem_set hs' with rfl | ⟨q, -, hq⟩
                       · have h1 := Hf0.out
                         have h2 := Hf1.out
                         rw [Ht.out] at h1
                         exact ⟨h1, h2, hx2.1, hx2.2, hx1, hx34⟩
                       · have := Hsok.out s' (List.mem_of_getElem? hq)
                         omega) (by omega) (HyF.out.below hGX) (own_below Hyr.out hGX)
                   rw [Hpol.out]
                   obtain ⟨s1, s2, s3, s4⟩ := set12_same w3 (w.heap.size + 1) (.int .i64 0) (.int .i64 i) (.int .u64 gn) (.int .i64 C) (.int .u64 x4) (.int .i64 0) (.int .i64 0) (.bool false) (.int .i64 0) (.int .u64 0) (.slice none 0 0) (.slice Av ln kv)
                   have hyw : w.heap.size + 1 < y.heap.size := Nat.lt_of_lt_of_le al HhZy.out
                   have hOX : w3.ownsRow w.heap.size 39 1 (.slice Av ln kv) ws.length (u64V ws) := by
                     rw [← Hln.out]
                     exact own_base hO (by omega)
                   exact post_up2 (a := { refS 0 with sub := i, gen := gn, words := ws, count := C, lost := x4 }) (gv := nilS) (wv := .slice Av ln kv) hIs hTu (Nat.le_succ _) (fun i hi e => by
                       rcases hi with hi | hi
                       · have := HM.out i (.inl (hOw i hi)); omega
                       · have := HM.out i (.inr (setRow_ro hi)); omega)
                     (World.ownsRow_nil _ _ _ _) hOX (fun q hq => by
                       rcases hq with hq | hq
                       · cases hq
                       · have h1 := (hO.lt q hq).1
                         exact ⟨fun hi => by have := HM.out q (.inl (hOw q hi)); omega, fun hi => by have := HM.out q (.inr (setRow_ro hi)); omega⟩) (fun q hq => by
                       rcases hq with hq | hq
                       · cases hq
                       · have h1 := (hO.lt q hq).1
                         omega) s1 s2 s3 s4 (fun i hi => set12_other hi _ _ _ _ _ _ _ _ _ _ _ _)
                 skip))

end Go.Proofs.YtpilfhjlfbjloaaGreatDoor
