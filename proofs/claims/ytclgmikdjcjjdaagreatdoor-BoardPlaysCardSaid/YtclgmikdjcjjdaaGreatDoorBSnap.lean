/-
  The walk of the blackboard's call Snapshot. Conditions: a blackboard in memory; up to 100 topics asked for.
-/
import Derived.Test.YtclgmikdjcjjdaaGreatDoorBSub
import Derived.Test.YtclgmikdjcjjdaaGreatDoorBHeld
namespace Go.Proofs.YtclgmikdjcjjdaaGreatDoor
open Go.RowKit


theorem newest_len {k : Nat} {w : World} {m : Mem} {S : Bd} (h : IsBd k w m S) (t : Nat) : (S.newest t).length ≤ 100 := by
  unfold Bd.newest
  cases hr : S.recs t (S.gen t) with
  | none => simp
  | some ws => exact (h.inv.recs t _ ws hr).2

theorem one_cell {x : World} {g : Nat} {c : Value} {t : TypeId} (h : x.heap[g]? = some (.cells #[c] t)) : ∀ (j : Nat) (u : Value), [c][j]? = some u → x.cell? ((⟨g, 0, none⟩ : Addr).add j) = some u := by
  intro j u hj
  match j, hj with
  | 0, hj => simp at hj; subst hj; simp [Addr.add, World.cell?, h]
  | j + 1, hj => simp at hj

theorem own_cells {x : World} {base g n c : Nat} {t : TypeId} {xs : List Value} (h : x.ownsRow base t 1 (.slice (some ⟨g, 0, none⟩) n c) n xs) : ∀ (j : Nat) (u : Value), xs[j]? = some u → x.cell? ((⟨g, 0, none⟩ : Addr).add j) = some u :=
  fun j u hu => h.cells (g := g) rfl j u hu

theorem fr_grown {Y x y : World} {g7 : Nat} {v : Value} (hF : Below (g7 + 1) Y x) (hg : x.grownBy y v.ownBlock) (hv : ∀ q, v.ownBlock = some q → g7 + 1 ≤ q) (hY : g7 + 1 ≤ Y.heap.size) : Below (g7 + 1) Y y :=
  ⟨hg.os.trans hF.os, hg.tape.trans hF.tape, hg.output.trans hF.output, Nat.le_trans hF.size hg.size, fun i hi => (hg.block i (by have := hF.size; omega) (fun e => by have := hv i e.symm; omega)).trans (hF.block i hi)⟩

theorem fr_call {Y x y : World} {g7 : Nat} (hF : Below (g7 + 1) Y x) (hb : Below x.heap.size x y) (hY : g7 + 1 ≤ Y.heap.size) : Below (g7 + 1) Y y := hF.trans (hb.mono (Nat.le_trans hY hF.size))

theorem call_size {Y x y : World} {g7 : Nat} (hF : Below (g7 + 1) Y x) (_ : Below x.heap.size x y) : Y.heap.size ≤ x.heap.size := hF.size

theorem kept_ne {x y : World} {v u : Value} {base n : Nat} {t : TypeId} {xs : List Value} (h : x.ownsRow base t 1 v n xs) (hg : x.grownBy y u.ownBlock) (hne : ∀ q, v.ownBlock = some q → u.ownBlock ≠ some q) : y.ownsRow base t 1 v n xs := by
  refine h.kept hg ?_
  cases hv : v.ownBlock with
  | none => exact .inl rfl
  | some q => exact .inr (fun e => hne q hv e.symm)

theorem cell_kept {x y : World} {u : Value} {g : Nat} {o : Obj} (h : x.heap[g]? = some o) (hg : x.grownBy y u.ownBlock) (hne : u.ownBlock ≠ some g) : y.heap[g]? = some o :=
  (hg.block g (block_lt h) (fun e => hne e.symm)).trans h

theorem lie_ne {a b : Nat} {v : Value} {n c : Nat} (h1 : v.ownBlock = some a ∨ b ≤ a) {u : Value} (h2 : ∀ q, v.ownBlock = some q → u.ownBlock ≠ some q) (h3 : ∀ q, u.ownBlock = some q → q < b) : ∀ q, (Value.slice (some ⟨a, 0, none⟩) n c).ownBlock = some q → u.ownBlock ≠ some q := by
  intro q hq hq2
  have e : a = q := Option.some.inj hq
  subst e
  rcases h1 with h1 | h1
  · exact h2 _ h1 hq2
  · have := h3 _ hq2; omega

theorem lie_low {a b c : Nat} {v : Value} (h : v.ownBlock = some a ∨ a = c) (hb : b ≤ c) : v.ownBlock = some a ∨ b ≤ a := h.imp id (fun e => by omega)

theorem lie_apart {a g c b : Nat} {v u : Value} (h1 : v.ownBlock = some a ∨ a = c) (h2 : u.ownBlock = some g ∨ b ≤ g) (hg : g < c) (hvu : ∀ q, v.ownBlock = some q → u.ownBlock ≠ some q) (hv : ∀ q, v.ownBlock = some q → q < b) : a ≠ g := by
  intro e
  subst e
  rcases h1 with h1 | h1
  · rcases h2 with h2 | h2
    · exact hvu _ h1 h2
    · have := hv _ h1; omega
  · omega

theorem natL_snoc (l : List Nat) (g : Nat) : natL (l ++ [g]) = natL l ++ [.int .u64 g] := by simp [natL]

set_option maxRecDepth 100000 in
set_option maxHeartbeats 3200000 in
theorem snap_do {k : Nat} {m : Mem} {S : Bd} (task : Int) (c : Cl) (sv wv : Value) (w : World) (n : Nat) (h : IsBd k w m S) (hk : k + 1 ≤ 1000000) (hn : n = c.set.length) (hn1 : n ≤ 100) (hset : Rd w sv 1 n (c.set.map (Value.int .i64))) :
    Calls Tryz.prog 28 #[.pointer (some ⟨m.bb, 0, none⟩), .int .i64 task, clV c sv wv] w fun e w' => DoPost (k + 1) w m (S, snapGo S c.set [] []) e w' := by
  have hB := h.blk
  have h5 : w.cell? ⟨m.bb, 5, none⟩ = some (.slice (some ⟨m.gb, 0, none⟩) S.gens.length m.gc) := (row13 hB).2.2.2.2.2.1
  have HI := hide h
  have Hset := hide hset
  have Hn := hide hn
  have HM := hide h.lt
  have hbbl := block_lt hB
  have hgbl := h.lt m.gb (.inl (.inr (.inr (.inl rfl))))
  obtain ⟨A, cA, rfl, hA1, hA2, -⟩ := hset.shape
  obtain ⟨N, hN⟩ : ∃ N, N = S.gens.length := ⟨_, rfl⟩
  have HN := hide hN
  rw [← hN] at h5
  clear h hset hn hB hN
  go_enter Tryz.func28, Tryz.ntmps28
  go_wp2_with fail
  obtain ⟨Z, hZ⟩ : ∃ Z, Z = ((w.alloc (clO c (.slice A n cA) wv)).alloc anZ).alloc anZ := ⟨_, rfl⟩
  have hZb : Below w.heap.size w Z := by rw [hZ]; exact below2 (below_new2 w _ _) (below_new _ _)
  have hZ5 : Z.heap[w.heap.size]? = some (clO c (.slice A n cA) wv) := by rw [hZ]; exact alloc_was _ _ _ _ (heap_two w _ _).1
  have hZ6 : Z.heap[w.heap.size + 1]? = some anZ := by rw [hZ]; exact alloc_was _ _ _ _ (heap_two w _ _).2
  have hZ7 : Z.heap[w.heap.size + 1 + 1]? = some anZ := by rw [hZ]; have := heap_alloc_new ((w.alloc (clO c (.slice A n cA) wv)).alloc anZ) anZ; simpa only [alloc_size] using this
  rw [← hZ]
  have HZ := hide hZ
  clear hZ
  obtain ⟨t0, t1, t2, t3, t4, t5, t6, t7, t8, t9, t10, tf, tl⟩ := row11 hZ5
  obtain ⟨a0, a1, a2, a3, a4, a5, a6, a7, a8, a9, a10, a11, af, al⟩ := row12 hZ6
  clear t0 t1 t2 t3 t4 t5 t6 t7 t8 t9 t10 a0 a1 a2 a3 a4 a5 a6 a7 a8 a9 a10 a11
  have hg7 : w.heap.size + 1 + 1 < Z.heap.size := block_lt hZ7
  generalize hg7e : w.heap.size + 1 + 1 = g7 at *
  have Hg7 := hide hg7e
  have hg7l : w.heap.size + 1 < g7 := by omega
  clear hg7e
  go_loopw [13] (fun i wr => ∃ (j : Nat) (gs : List Nat) (us : List Int) (G : Option Addr) (cg : Nat) (U : Option Addr) (cu : Nat), j ≤ n ∧ i = .int .i64 j ∧ Hid (snapGo S c.set [] [] = snapGo S (c.set.drop j) gs us) ∧ gs.length = j ∧ us.length ≤ 100 * j ∧
      Below g7 Z wr ∧ wr.heap[g7]? = some (.cells #[.int .i64 0, .int .i64 0, .int .u64 0, .int .i64 0, .int .u64 0, .int .i64 0, .int .i64 0, .bool false, .int .i64 0, .int .u64 0, .slice G j cg, .slice U us.length cu] 41) ∧
      wr.ownsRow (g7 + 1) 36 1 (.slice G j cg) j (natL gs) ∧ wr.ownsRow (g7 + 1) 36 1 (.slice U us.length cu) us.length (u64V us) ∧ (∀ q, (Value.slice G j cg).ownBlock = some q → (Value.slice U us.length cu).ownBlock ≠ some q)) (fun i _ => n - (intOf i).toNat)
  case atStart => exact ⟨0, [], [], none, 0, none, 0, Nat.zero_le _, rfl, hide rfl, rfl, Nat.zero_le _, Below.refl _ _, hZ7, World.ownsRow_nil _ _ _ _, World.ownsRow_nil _ _ _ _, fun q hq => by cases hq⟩
  case round =>
    obtain ⟨j, gs, us, G, cg, U, cu, hj, rfl, Hgo, hgs, hus, hbel, hT7, hG, hU, hGU⟩ := hrel
    have hbw : Below w.heap.size w wr := hZb.trans (hbel.mono (by omega))
    have hT6 : wr.heap[w.heap.size + 1]? = some anZ := (hbel.block _ hg7l).trans hZ6
    obtain ⟨p0, p1, p2, p3, p4, p5, p6, p7, p8, p9, p10, p11, pf, pl⟩ := row12 hT7
    obtain ⟨a0, a1, a2, a3, a4, a5, a6, a7, a8, a9, a10, a11, af', al'⟩ := row12 hT6
    by_cases hlt : j < n
    · obtain ⟨b, o, c1, hv, h1, h2, hb, hc⟩ := (Hset.out.below hbw).open_ (by omega)
      cases hv
      obtain ⟨x, hx⟩ : ∃ x, c.set[j]? = some x := ⟨c.set[j]'(by have := Hn.out; omega), by simp⟩
      have d0 := hc j (.int .i64 x) (by simp [hx])
      have hdrop : c.set.drop j = x :: c.set.drop (j + 1) := by
        have hjl := (List.getElem?_eq_some_iff.1 hx).1
        rw [List.drop_eq_getElem_cons hjl]
        congr 1
        exact (List.getElem?_eq_some_iff.1 hx).2
      have HH := hide (has_any m.bb N m.gc m.gb x wr ((hbw.cell (p := ⟨m.bb, 5, none⟩) hbbl).trans h5))
      have hhas : S.has x = (decide (0 ≤ x) && decide (x < N)) := by rw [HN.out]; rfl
      rw [← hhas] at HH
      cases hh : S.has x with
      | false =>
        rw [hh] at HH
        have Hend := hide (show snapGo S c.set [] [] = refS 14 by rw [Hgo.out, hdrop, snapGo, if_pos hh])
        clear hx hc hdrop hhas hh hG hU hGU hT7 p0 p1 p2 p3 p4 p5 p6 p7 p8 p9 p10 p11
        go_wp2_with fail
        refine HH.out.mono ?_
        rintro e w' ⟨rfl, rfl⟩
        go_wp2_with fail
        refine (refused_any 14 _).mono ?_
        rintro e w2 ⟨rfl, hb2⟩
        obtain ⟨b0, b1, b2, b3, b4, b5, b6, b7, b8, b9, b10, b11, bf, bl⟩ := row12 ((hb2.block (w.heap.size + 1) al').trans hT6)
        go_wp2
        have hresl : Tryz.f28.results = #[.cell 6 41] := by kernel_rfl
        refine bodyPost_ret (v := anR 14) ?_ rfl ?_
        · simp only [results, hresl]
          go_simp
        · rw [Hend.out]
          exact post_plain (HI.out.mono (Nat.le_succ k) hk) (set12_below (below2 hbw hb2) (Nat.le_succ _) _ _ _ _ _ _ _ _ _ _ _ _) rfl rfl
      | true =>
        rw [hh] at HH
        obtain ⟨t, rfl, htN⟩ : ∃ t : Nat, x = t ∧ t < N := ⟨x.toNat, by rw [hhas] at hh; simp at hh; omega, by rw [hhas] at hh; simp at hh; omega⟩
        have htl : t < S.gens.length := by have := HN.out; omega
        obtain ⟨Gt, hGt⟩ : ∃ g, g = S.gen t := ⟨_, rfl⟩
        have hcell := HI.out.gen_cell htl
        rw [← hGt] at hcell
        obtain ⟨nw, hnw⟩ : ∃ q, q = S.newest t := ⟨_, rfl⟩
        have hnwl : nw.length ≤ 100 := by rw [hnw]; exact newest_len HI.out t
        have hnw1 : 0 < nw.length := by
          obtain ⟨us0, hus0⟩ := HI.out.inv.kept t htl
          rw [hnw, Bd.newest, hus0]
          exact (HI.out.inv.recs t _ us0 hus0).1
        have Hnx := hide (show snapGo S c.set [] [] = snapGo S (c.set.drop (j + 1)) (gs ++ [Gt]) (us ++ nw) by
          rw [Hgo.out, hdrop, snapGo, if_neg (by rw [hh]; simp), Int.toNat_natCast, hGt, hnw])
        have HNew := hide (fun (w' : World) (hb : Below w.heap.size w w') => hnw ▸ newest_at t w' (HI.out.below hb) htl)
        have htN' : (t : Int) < (N : Int) := by omega
        clear hx hc hdrop hhas hh a0 a1 a2 a3 a4 a5 a6 a7 a8 a9 a10 a11 p0 p1 p2 p3 p4 p5 p6 p7 p8 p9
        go_wp2_with fail
        refine HH.out.mono ?_
        rintro e w' ⟨rfl, rfl⟩
        go_wp2_with fail
        obtain ⟨i0, hi, hz0, hz1, hz2⟩ := info_parts info_u64
        have hbg7 : m.bb < g7 + 1 := by omega
        have hgg7 : m.gb < g7 + 1 := by omega
        have y5 := (hbw.cell (p := ⟨m.bb, 5, none⟩) hbbl).trans h5
        have yg := (hbw.cell (p := ⟨m.gb, t, none⟩) hgbl).trans hcell
        have hbg : m.bb < g7 := by omega
        have hgg : m.gb < g7 := by omega
        have HK : ∀ x, Below g7 w' x → x.cell? ⟨m.bb, 5, none⟩ = some (.slice (some ⟨m.gb, 0, none⟩) N m.gc) ∧ x.cell? ⟨m.gb, t, none⟩ = some (.int .u64 Gt) ∧ Below g7 w' x :=
          fun x hx => ⟨(hx.cell (p := ⟨m.bb, 5, none⟩) hbg).trans y5, (hx.cell (p := ⟨m.gb, t, none⟩) hgg).trans yg, hx⟩
        have HL : ∀ x, Below (g7 + 1) w' x → x.cell? ⟨g7, 10, none⟩ = some (.slice G j cg) ∧ x.cell? ⟨g7, 11, none⟩ = some (.slice U us.length cu) ∧ (∀ i, x.frozen? ⟨g7, i, none⟩ = false) ∧ g7 < x.heap.size :=
          fun x hx => ⟨(hx.cell (p := ⟨g7, 10, none⟩) (Nat.lt_succ_self _)).trans p10, (hx.cell (p := ⟨g7, 11, none⟩) (Nat.lt_succ_self _)).trans p11, fun i => (hx.frozen (p := ⟨g7, i, none⟩) (Nat.lt_succ_self _)).trans (pf i), Nat.lt_of_lt_of_le pl hx.size⟩
        have hg7w : g7 + 1 ≤ w'.heap.size := pl
        have hF0 : Below (g7 + 1) w' w'.drew := (Below.refl _ w').drew
        have hG0 : w'.drew.ownsRow (g7 + 1) 36 1 (.slice G j cg) j (natL gs) := hG
        have hU0 : w'.drew.ownsRow (g7 + 1) 36 1 (.slice U us.length cu) us.length (u64V us) := hU
        have hwF : ∀ x, Below (g7 + 1) w' x → Below w.heap.size w x := fun x hx => hbw.trans (hx.mono (by omega))
        have hFa : ∀ x o, Below (g7 + 1) w' x → Below (g7 + 1) w' (x.alloc o) := fun x o hx => hx.alloc (Nat.le_trans hg7w hx.size) o
        have hGq : ∀ q, (Value.slice G j cg).ownBlock = some q → g7 + 1 ≤ q ∧ q < w'.heap.size := fun q hq => hG.lt q hq
        have hUq : ∀ q, (Value.slice U us.length cu).ownBlock = some q → g7 + 1 ≤ q ∧ q < w'.heap.size := fun q hq => hU.lt q hq
        have hgl : natL gs ++ [.int .u64 Gt] = natL (gs ++ [Gt]) := (natL_snoc gs Gt).symm
        have hGE : (w'.alloc (.cells #[.int .u64 Gt] 36)).drew.ownsRow (g7 + 1) 36 1 (.slice G j cg) j (natL gs) := hG.alloc _
        have hUE : (w'.alloc (.cells #[.int .u64 Gt] 36)).drew.ownsRow (g7 + 1) 36 1 (.slice U us.length cu) us.length (u64V us) := hU.alloc _
        have hFE : Below (g7 + 1) w' (w'.alloc (.cells #[.int .u64 Gt] 36)).drew := ((Below.refl _ w').alloc hg7w _).drew
        have hEE : (w'.alloc (.cells #[.int .u64 Gt] 36)).drew.heap[w'.heap.size]? = some (.cells #[.int .u64 Gt] 36 (0, 0)) := heap_alloc_new w' (.cells #[.int .u64 Gt] 36)
        have HGt := hide hGt
        have Hnw := hide hnw
        clear hG hU hGt hnw
        have hUG : ∀ q, (Value.slice U us.length cu).ownBlock = some q → (Value.slice G j cg).ownBlock ≠ some q := fun q hq hq2 => hGU q hq2 hq
        have hul : us.length + nw.length ≤ 20000 := by omega
        obtain ⟨l10, l11, lf, ll⟩ := HL _ hF0
        obtain ⟨m10, m11, mf, ml⟩ := HL _ hFE
        refine wp_region_noPanic ?_
        refine wp_region_held_drew (S := (fun x => x.cell? ⟨m.bb, 5, none⟩ = some (.slice (some ⟨m.gb, 0, none⟩) N m.gc) ∧ x.cell? ⟨m.gb, t, none⟩ = some (.int .u64 Gt) ∧ Below g7 w' x)) (by kernel_rfl) (by (try dsimp only); (first | with_reducible assumption | (refine HK _ ?_; first | exact Below.mono (by assumption) (Nat.le_succ g7) | exact Below.mono (hFa _ _ (by assumption)) (Nat.le_succ g7) | exact (Below.mono (by assumption) (Nat.le_succ g7)).setCell (Nat.le_refl _) _ | exact ((Below.mono (by assumption) (Nat.le_succ g7)).setCell (Nat.le_refl _) _).setCell (Nat.le_refl _) _))) (fun hHeld0 => ?_)
        refine held_take (i := 0) (v := ?_) (by rfl) (by kernel_rfl) (by kernel_rfl) (by kernel_rfl) (fun _ _ _ h => h) (Or.inl ⟨by rfl, ?_⟩) hHeld0 ?_
        rotate_left
        · (intro w hSw; (try dsimp only at hSw); go_simp; try with_reducible rfl)
        try simp only [Act.put, List.setIfInBounds_toArray, List.set_cons_zero, List.set_cons_succ]
        refine held_take (i := 2) (v := ?_) (by rfl) (by kernel_rfl) (by kernel_rfl) (by kernel_rfl) (fun _ _ _ h => h) (Or.inl ⟨by rfl, ?_⟩) hHeld0 ?_
        rotate_left
        · (intro w hSw; (try dsimp only at hSw); go_simp; try with_reducible rfl)
        try simp only [Act.put, List.setIfInBounds_toArray, List.set_cons_zero, List.set_cons_succ]
        refine held_take (i := 3) (v := ?_) (by rfl) (by kernel_rfl) (by kernel_rfl) (by kernel_rfl) (fun _ _ _ h => h) (Or.inl ⟨by rfl, ?_⟩) hHeld0 ?_
        rotate_left
        · (intro w hSw; (try dsimp only at hSw); go_simp; try with_reducible rfl)
        try simp only [Act.put, List.setIfInBounds_toArray, List.set_cons_zero, List.set_cons_succ]
        refine held_take (i := 4) (v := ?_) (by rfl) (by kernel_rfl) (by kernel_rfl) (by kernel_rfl) (fun _ _ _ h => h) (Or.inl ⟨by rfl, ?_⟩) hHeld0 ?_
        rotate_left
        · (intro w hSw; (try dsimp only at hSw); go_simp; try with_reducible rfl)
        try simp only [Act.put, List.setIfInBounds_toArray, List.set_cons_zero, List.set_cons_succ]
        refine held_take (i := 5) (v := ?_) (by rfl) (by kernel_rfl) (by kernel_rfl) (by kernel_rfl) (fun _ _ _ h => h) (Or.inl ⟨by rfl, ?_⟩) hHeld0 ?_
        rotate_left
        · (intro w hSw; (try dsimp only at hSw); go_simp; try with_reducible rfl)
        try simp only [Act.put, List.setIfInBounds_toArray, List.set_cons_zero, List.set_cons_succ]
        refine held_take (i := 6) (v := ?_) (by rfl) (by kernel_rfl) (by kernel_rfl) (by kernel_rfl) (fun _ _ _ h => h) (Or.inl ⟨by rfl, ?_⟩) hHeld0 ?_
        rotate_left
        · (intro w hSw; (try dsimp only at hSw); go_simp; try with_reducible rfl)
        try simp only [Act.put, List.setIfInBounds_toArray, List.set_cons_zero, List.set_cons_succ]
        refine held_take (i := 7) (v := ?_) (by rfl) (by kernel_rfl) (by kernel_rfl) (by kernel_rfl) (fun _ _ _ h => h) (Or.inl ⟨by rfl, ?_⟩) hHeld0 ?_
        rotate_left
        · (intro w hSw; (try dsimp only at hSw); go_simp; try with_reducible rfl)
        try simp only [Act.put, List.setIfInBounds_toArray, List.set_cons_zero, List.set_cons_succ]
        refine held_take (i := 8) (v := ?_) (by rfl) (by kernel_rfl) (by kernel_rfl) (by kernel_rfl) (fun _ _ _ h => h) (Or.inl ⟨by rfl, ?_⟩) hHeld0 ?_
        rotate_left
        · (intro w hSw; (try dsimp only at hSw); go_simp; try with_reducible rfl)
        try simp only [Act.put, List.setIfInBounds_toArray, List.set_cons_zero, List.set_cons_succ]
        refine held_take (i := 11) (v := ?_) (by rfl) (by kernel_rfl) (by kernel_rfl) (by kernel_rfl) (fun _ _ _ h => h) (Or.inl ⟨by rfl, ?_⟩) hHeld0 ?_
        rotate_left
        · (intro w hSw; (try dsimp only at hSw); go_simp; try with_reducible rfl)
        try simp only [Act.put, List.setIfInBounds_toArray, List.set_cons_zero, List.set_cons_succ]
        refine held_take (i := 13) (v := ?_) (by rfl) (by kernel_rfl) (by kernel_rfl) (by kernel_rfl) (fun _ _ _ h => h) (Or.inl ⟨by rfl, ?_⟩) hHeld0 ?_
        rotate_left
        · (intro w hSw; (try dsimp only at hSw); go_simp; try with_reducible rfl)
        try simp only [Act.put, List.setIfInBounds_toArray, List.set_cons_zero, List.set_cons_succ]
        refine held_take (i := 14) (v := ?_) (by rfl) (by kernel_rfl) (by kernel_rfl) (by kernel_rfl) (fun _ _ _ h => h) (Or.inl ⟨by rfl, ?_⟩) hHeld0 ?_
        rotate_left
        · (intro w hSw; (try dsimp only at hSw); go_simp; try with_reducible rfl)
        try simp only [Act.put, List.setIfInBounds_toArray, List.set_cons_zero, List.set_cons_succ]
        refine wpAnyH_ready (rs := [1, 9, 12]) (by kernel_rfl) (by simp) ?_
        refine held_cons (by rfl) (fun K hK => ?_) ?_
        · go_simp
          refine hK.out _ _ (by (try dsimp only); (first | with_reducible assumption | (refine HK _ ?_; first | exact Below.mono (by assumption) (Nat.le_succ g7) | exact Below.mono (hFa _ _ (by assumption)) (Nat.le_succ g7) | exact (Below.mono (by assumption) (Nat.le_succ g7)).setCell (Nat.le_refl _) _ | exact ((Below.mono (by assumption) (Nat.le_succ g7)).setCell (Nat.le_refl _) _).setCell (Nat.le_refl _) _))) (fun hHeld1 => ?_)
          clear hK K hHeld0
          try simp only [Act.put, List.setIfInBounds_toArray, List.set_cons_zero, List.set_cons_succ]
          refine wpAnyH_ready (rs := [9, 12]) (by kernel_rfl) (by simp) ?_
          refine held_cons (by rfl) (fun K hK => ?_) ?_
          · go_simp
            refine hK.out _ _ (by (try dsimp only); (first | with_reducible assumption | (refine HK _ ?_; first | exact Below.mono (by assumption) (Nat.le_succ g7) | exact Below.mono (hFa _ _ (by assumption)) (Nat.le_succ g7) | exact (Below.mono (by assumption) (Nat.le_succ g7)).setCell (Nat.le_refl _) _ | exact ((Below.mono (by assumption) (Nat.le_succ g7)).setCell (Nat.le_refl _) _).setCell (Nat.le_refl _) _))) (fun hHeld2 => ?_)
            clear hK K hHeld1
            try simp only [Act.put, List.setIfInBounds_toArray, List.set_cons_zero, List.set_cons_succ]
            refine wpAnyH_ready (rs := [10, 12]) (by kernel_rfl) (by simp) ?_
            refine held_cons (by rfl) (fun K hK => ?_) ?_
            · (first | (go_at_call 56; refine (HNew.out _ (hwF _ (by first | assumption | exact hFa _ _ (by assumption)))).mono ?_; rintro e w2 ⟨rfl, hC, hb2⟩; have hCs := call_size (g7 := g7) (Y := w') (by first | assumption | exact hFa _ _ (by assumption)) hb2; have hF2 : Below (g7 + 1) w' w2 := fr_call (by first | assumption | exact hFa _ _ (by assumption)) hb2 hg7w; obtain ⟨c10, c11, c12, c13⟩ := HL w2 hF2; (try (have hG2 : w2.ownsRow (g7 + 1) 36 1 (.slice G j cg) j (natL gs) := own_below (by first | assumption | exact World.ownsRow.alloc (by assumption) _) hb2)); (try (have hU2 : w2.ownsRow (g7 + 1) 36 1 (.slice U us.length cu) us.length (u64V us) := own_below (by first | assumption | exact World.ownsRow.alloc (by assumption) _) hb2)); (try (have eE : w2.heap[w'.heap.size]? = some (.cells #[.int .u64 Gt] 36 (0, 0)) := (hb2.block w'.heap.size (by simp)).trans hEE)); (try (have hA2 := own_below hA hb2))) | (refine step_append_lies _ rfl (.tmp 23) (.tmp 31) 39 rfl (g7 + 1) 36 i0 _ 1 8 und_u64s hi hz0 hz1 hz2 rfl (by decide) (.slice G j cg) j (natL gs) rfl (by first | assumption | exact World.ownsRow.alloc (by assumption) _) _ 1 1 [.int .u64 Gt] rfl rfl (by first | exact cell_one_new _ _ _ | exact one_cell (by assumption)) (by simp [Value.oneCell']) (by omega) (by unfold maxLen; omega) (by omega) (by first | (have hq := hF6.size; simp; omega) | (have hq := hF4.size; simp; omega) | (have hq := hF2.size; simp; omega) | (have hq := hF0.size; simp; omega) | (simp; omega)) _ rfl ?_; intro ga ca w4 hA hgA hliA hltA; have hAl := lie_low (b := w'.heap.size) hliA (by first | (have hq := hF6.size; simp; omega) | (have hq := hF2.size; simp; omega) | simp); have hAU := lie_ne (n := j + 1) (c := ca) hAl hGU (fun q hq => (hUq q hq).2); (try (have hne4 : ga ≠ gn := lie_apart hliA hNl (by first | exact hltN | (simp; omega)) hGU (fun q hq => (hGq q hq).2))); have hF4 : Below (g7 + 1) w' w4 := fr_grown (by first | assumption | exact hFa _ _ (by assumption)) hgA (fun q hq => (hGq q hq).1) hg7w; obtain ⟨d10, d11, d12, d13⟩ := HL w4 hF4; (try (have hU4 : w4.ownsRow (g7 + 1) 36 1 (.slice U us.length cu) us.length (u64V us) := kept_ne (by first | assumption | exact World.ownsRow.alloc (by assumption) _) hgA hUG)); (try (have hC4 := kept_ne hC hgA (fun q hq hq2 => by cases hq; have := (hGq _ hq2).2; omega))); (try (have hC4 := kept_ne (hC.alloc _) hgA (fun q hq hq2 => by cases hq; have := (hGq _ hq2).2; omega))); (try (have hN4 := kept_ne hN hgA hNG)); (try (have hN4 := kept_ne (hN.alloc _) hgA hNG))) | (refine step_append_lies _ rfl (.tmp 34) (.tmp 37) 39 rfl (g7 + 1) 36 i0 _ 1 8 und_u64s hi hz0 hz1 hz2 rfl (by decide) (.slice U us.length cu) us.length (u64V us) rfl (by first | assumption | exact World.ownsRow.alloc (by assumption) _) _ nw.length _ (u64V nw) rfl (by simp) (own_cells (by first | assumption | exact World.ownsRow.alloc (by assumption) _)) (by simp [Value.oneCell']) hnw1 (by unfold maxLen; omega) (by omega) (by first | (have hq := hF6.size; simp; omega) | (have hq := hF4.size; simp; omega) | (have hq := hF2.size; simp; omega) | (have hq := hF0.size; simp; omega) | (simp; omega)) _ rfl ?_; intro gn cn w6 hN hgN hliN hltN; have hNl := lie_low (b := w'.heap.size) hliN (by first | (have hq := hF4.size; simp; omega) | (have hq := hF2.size; simp; omega)); have hNG := lie_ne (n := us.length + nw.length) (c := cn) hNl hUG (fun q hq => (hGq q hq).2); (try (have hA6 := kept_ne hA hgN hAU)); (try (have hA6 := kept_ne hA2 hgN hAU)); (try (have hne6 : ga ≠ gn := Ne.symm (lie_apart hliN hAl (by first | exact hltA | exact Nat.lt_of_lt_of_le hltA hb2.size | (simp; omega)) hUG (fun q hq => (hUq q hq).2)))); have hF6 : Below (g7 + 1) w' w6 := fr_grown (by first | assumption | exact hFa _ _ (by assumption)) hgN (fun q hq => (hUq q hq).1) hg7w; obtain ⟨f10, f11, f12, f13⟩ := HL w6 hF6; (try (have hG6 : w6.ownsRow (g7 + 1) 36 1 (.slice G j cg) j (natL gs) := kept_ne (by first | assumption | exact World.ownsRow.alloc (by assumption) _) hgN hGU)); (try (have eE6 : w6.heap[w'.heap.size]? = some (.cells #[.int .u64 Gt] 36 (0, 0)) := cell_kept eE hgN (fun e => by have := (hUq _ e).2; omega))); (try (have eE6 := cell_kept (heap_alloc_new w2 (.cells #[.int .u64 Gt] 36)) hgN (fun e => by have := (hUq _ e).2; have := hF2.size; omega)))))
              refine hK.out _ _ (by (try dsimp only); (first | with_reducible assumption | (refine HK _ ?_; first | exact Below.mono (by assumption) (Nat.le_succ g7) | exact Below.mono (hFa _ _ (by assumption)) (Nat.le_succ g7) | exact (Below.mono (by assumption) (Nat.le_succ g7)).setCell (Nat.le_refl _) _ | exact ((Below.mono (by assumption) (Nat.le_succ g7)).setCell (Nat.le_refl _) _).setCell (Nat.le_refl _) _))) (fun hHeld3 => ?_)
              clear hK K hHeld2
              try simp only [Act.put, List.setIfInBounds_toArray, List.set_cons_zero, List.set_cons_succ]
              refine wpAnyH_ready (rs := [12, 15]) (by kernel_rfl) (by simp) ?_
              refine held_cons (by rfl) (fun K hK => ?_) ?_
              · go_simp
                refine hK.out _ _ (by (try dsimp only); (first | with_reducible assumption | (refine HK _ ?_; first | exact Below.mono (by assumption) (Nat.le_succ g7) | exact Below.mono (hFa _ _ (by assumption)) (Nat.le_succ g7) | exact (Below.mono (by assumption) (Nat.le_succ g7)).setCell (Nat.le_refl _) _ | exact ((Below.mono (by assumption) (Nat.le_succ g7)).setCell (Nat.le_refl _) _).setCell (Nat.le_refl _) _))) (fun hHeld4 => ?_)
                clear hK K hHeld3
                try simp only [Act.put, List.setIfInBounds_toArray, List.set_cons_zero, List.set_cons_succ]
                refine held_take (i := 17) (v := ?_) (by rfl) (by kernel_rfl) (by kernel_rfl) (by kernel_rfl) (fun _ _ _ h => h) (Or.inl ⟨by rfl, ?_⟩) hHeld4 ?_
                rotate_left
                · (intro w hSw; (try dsimp only at hSw); go_simp; try with_reducible rfl)
                try simp only [Act.put, List.setIfInBounds_toArray, List.set_cons_zero, List.set_cons_succ]
                refine wpAnyH_ready (rs := [15]) (by kernel_rfl) (by simp) ?_
                refine held_cons (by rfl) (fun K hK => ?_) ?_
                · go_simp
                  (first | (go_at_call 56; refine (HNew.out _ (hwF _ (by first | assumption | exact hFa _ _ (by assumption)))).mono ?_; rintro e w2 ⟨rfl, hC, hb2⟩; have hCs := call_size (g7 := g7) (Y := w') (by first | assumption | exact hFa _ _ (by assumption)) hb2; have hF2 : Below (g7 + 1) w' w2 := fr_call (by first | assumption | exact hFa _ _ (by assumption)) hb2 hg7w; obtain ⟨c10, c11, c12, c13⟩ := HL w2 hF2; (try (have hG2 : w2.ownsRow (g7 + 1) 36 1 (.slice G j cg) j (natL gs) := own_below (by first | assumption | exact World.ownsRow.alloc (by assumption) _) hb2)); (try (have hU2 : w2.ownsRow (g7 + 1) 36 1 (.slice U us.length cu) us.length (u64V us) := own_below (by first | assumption | exact World.ownsRow.alloc (by assumption) _) hb2)); (try (have eE : w2.heap[w'.heap.size]? = some (.cells #[.int .u64 Gt] 36 (0, 0)) := (hb2.block w'.heap.size (by simp)).trans hEE)); (try (have hA2 := own_below hA hb2))) | (refine step_append_lies _ rfl (.tmp 23) (.tmp 31) 39 rfl (g7 + 1) 36 i0 _ 1 8 und_u64s hi hz0 hz1 hz2 rfl (by decide) (.slice G j cg) j (natL gs) rfl (by first | assumption | exact World.ownsRow.alloc (by assumption) _) _ 1 1 [.int .u64 Gt] rfl rfl (by first | exact cell_one_new _ _ _ | exact one_cell (by assumption)) (by simp [Value.oneCell']) (by omega) (by unfold maxLen; omega) (by omega) (by first | (have hq := hF6.size; simp; omega) | (have hq := hF4.size; simp; omega) | (have hq := hF2.size; simp; omega) | (have hq := hF0.size; simp; omega) | (simp; omega)) _ rfl ?_; intro ga ca w4 hA hgA hliA hltA; have hAl := lie_low (b := w'.heap.size) hliA (by first | (have hq := hF6.size; simp; omega) | (have hq := hF2.size; simp; omega) | simp); have hAU := lie_ne (n := j + 1) (c := ca) hAl hGU (fun q hq => (hUq q hq).2); (try (have hne4 : ga ≠ gn := lie_apart hliA hNl (by first | exact hltN | (simp; omega)) hGU (fun q hq => (hGq q hq).2))); have hF4 : Below (g7 + 1) w' w4 := fr_grown (by first | assumption | exact hFa _ _ (by assumption)) hgA (fun q hq => (hGq q hq).1) hg7w; obtain ⟨d10, d11, d12, d13⟩ := HL w4 hF4; (try (have hU4 : w4.ownsRow (g7 + 1) 36 1 (.slice U us.length cu) us.length (u64V us) := kept_ne (by first | assumption | exact World.ownsRow.alloc (by assumption) _) hgA hUG)); (try (have hC4 := kept_ne hC hgA (fun q hq hq2 => by cases hq; have := (hGq _ hq2).2; omega))); (try (have hC4 := kept_ne (hC.alloc _) hgA (fun q hq hq2 => by cases hq; have := (hGq _ hq2).2; omega))); (try (have hN4 := kept_ne hN hgA hNG)); (try (have hN4 := kept_ne (hN.alloc _) hgA hNG))) | (refine step_append_lies _ rfl (.tmp 34) (.tmp 37) 39 rfl (g7 + 1) 36 i0 _ 1 8 und_u64s hi hz0 hz1 hz2 rfl (by decide) (.slice U us.length cu) us.length (u64V us) rfl (by first | assumption | exact World.ownsRow.alloc (by assumption) _) _ nw.length _ (u64V nw) rfl (by simp) (own_cells (by first | assumption | exact World.ownsRow.alloc (by assumption) _)) (by simp [Value.oneCell']) hnw1 (by unfold maxLen; omega) (by omega) (by first | (have hq := hF6.size; simp; omega) | (have hq := hF4.size; simp; omega) | (have hq := hF2.size; simp; omega) | (have hq := hF0.size; simp; omega) | (simp; omega)) _ rfl ?_; intro gn cn w6 hN hgN hliN hltN; have hNl := lie_low (b := w'.heap.size) hliN (by first | (have hq := hF4.size; simp; omega) | (have hq := hF2.size; simp; omega)); have hNG := lie_ne (n := us.length + nw.length) (c := cn) hNl hUG (fun q hq => (hGq q hq).2); (try (have hA6 := kept_ne hA hgN hAU)); (try (have hA6 := kept_ne hA2 hgN hAU)); (try (have hne6 : ga ≠ gn := Ne.symm (lie_apart hliN hAl (by first | exact hltA | exact Nat.lt_of_lt_of_le hltA hb2.size | (simp; omega)) hUG (fun q hq => (hUq q hq).2)))); have hF6 : Below (g7 + 1) w' w6 := fr_grown (by first | assumption | exact hFa _ _ (by assumption)) hgN (fun q hq => (hUq q hq).1) hg7w; obtain ⟨f10, f11, f12, f13⟩ := HL w6 hF6; (try (have hG6 : w6.ownsRow (g7 + 1) 36 1 (.slice G j cg) j (natL gs) := kept_ne (by first | assumption | exact World.ownsRow.alloc (by assumption) _) hgN hGU)); (try (have eE6 : w6.heap[w'.heap.size]? = some (.cells #[.int .u64 Gt] 36 (0, 0)) := cell_kept eE hgN (fun e => by have := (hUq _ e).2; omega))); (try (have eE6 := cell_kept (heap_alloc_new w2 (.cells #[.int .u64 Gt] 36)) hgN (fun e => by have := (hUq _ e).2; have := hF2.size; omega)))))
                  go_wp2_with fail
                  refine hK.out _ _ (by (try dsimp only); (first | with_reducible assumption | (refine HK _ ?_; first | exact Below.mono (by assumption) (Nat.le_succ g7) | exact Below.mono (hFa _ _ (by assumption)) (Nat.le_succ g7) | exact (Below.mono (by assumption) (Nat.le_succ g7)).setCell (Nat.le_refl _) _ | exact ((Below.mono (by assumption) (Nat.le_succ g7)).setCell (Nat.le_refl _) _).setCell (Nat.le_refl _) _))) (fun hHeld5 => ?_)
                  clear hK K hHeld4
                  try simp only [Act.put, List.setIfInBounds_toArray, List.set_cons_zero, List.set_cons_succ]
                  refine wpAnyH_ready (rs := [16]) (by kernel_rfl) (by simp) ?_
                  refine held_cons (by rfl) (fun K hK => ?_) ?_
                  · (first | (go_at_call 56; refine (HNew.out _ (hwF _ (by first | assumption | exact hFa _ _ (by assumption)))).mono ?_; rintro e w2 ⟨rfl, hC, hb2⟩; have hCs := call_size (g7 := g7) (Y := w') (by first | assumption | exact hFa _ _ (by assumption)) hb2; have hF2 : Below (g7 + 1) w' w2 := fr_call (by first | assumption | exact hFa _ _ (by assumption)) hb2 hg7w; obtain ⟨c10, c11, c12, c13⟩ := HL w2 hF2; (try (have hG2 : w2.ownsRow (g7 + 1) 36 1 (.slice G j cg) j (natL gs) := own_below (by first | assumption | exact World.ownsRow.alloc (by assumption) _) hb2)); (try (have hU2 : w2.ownsRow (g7 + 1) 36 1 (.slice U us.length cu) us.length (u64V us) := own_below (by first | assumption | exact World.ownsRow.alloc (by assumption) _) hb2)); (try (have eE : w2.heap[w'.heap.size]? = some (.cells #[.int .u64 Gt] 36 (0, 0)) := (hb2.block w'.heap.size (by simp)).trans hEE)); (try (have hA2 := own_below hA hb2))) | (refine step_append_lies _ rfl (.tmp 23) (.tmp 31) 39 rfl (g7 + 1) 36 i0 _ 1 8 und_u64s hi hz0 hz1 hz2 rfl (by decide) (.slice G j cg) j (natL gs) rfl (by first | assumption | exact World.ownsRow.alloc (by assumption) _) _ 1 1 [.int .u64 Gt] rfl rfl (by first | exact cell_one_new _ _ _ | exact one_cell (by assumption)) (by simp [Value.oneCell']) (by omega) (by unfold maxLen; omega) (by omega) (by first | (have hq := hF6.size; simp; omega) | (have hq := hF4.size; simp; omega) | (have hq := hF2.size; simp; omega) | (have hq := hF0.size; simp; omega) | (simp; omega)) _ rfl ?_; intro ga ca w4 hA hgA hliA hltA; have hAl := lie_low (b := w'.heap.size) hliA (by first | (have hq := hF6.size; simp; omega) | (have hq := hF2.size; simp; omega) | simp); have hAU := lie_ne (n := j + 1) (c := ca) hAl hGU (fun q hq => (hUq q hq).2); (try (have hne4 : ga ≠ gn := lie_apart hliA hNl (by first | exact hltN | (simp; omega)) hGU (fun q hq => (hGq q hq).2))); have hF4 : Below (g7 + 1) w' w4 := fr_grown (by first | assumption | exact hFa _ _ (by assumption)) hgA (fun q hq => (hGq q hq).1) hg7w; obtain ⟨d10, d11, d12, d13⟩ := HL w4 hF4; (try (have hU4 : w4.ownsRow (g7 + 1) 36 1 (.slice U us.length cu) us.length (u64V us) := kept_ne (by first | assumption | exact World.ownsRow.alloc (by assumption) _) hgA hUG)); (try (have hC4 := kept_ne hC hgA (fun q hq hq2 => by cases hq; have := (hGq _ hq2).2; omega))); (try (have hC4 := kept_ne (hC.alloc _) hgA (fun q hq hq2 => by cases hq; have := (hGq _ hq2).2; omega))); (try (have hN4 := kept_ne hN hgA hNG)); (try (have hN4 := kept_ne (hN.alloc _) hgA hNG))) | (refine step_append_lies _ rfl (.tmp 34) (.tmp 37) 39 rfl (g7 + 1) 36 i0 _ 1 8 und_u64s hi hz0 hz1 hz2 rfl (by decide) (.slice U us.length cu) us.length (u64V us) rfl (by first | assumption | exact World.ownsRow.alloc (by assumption) _) _ nw.length _ (u64V nw) rfl (by simp) (own_cells (by first | assumption | exact World.ownsRow.alloc (by assumption) _)) (by simp [Value.oneCell']) hnw1 (by unfold maxLen; omega) (by omega) (by first | (have hq := hF6.size; simp; omega) | (have hq := hF4.size; simp; omega) | (have hq := hF2.size; simp; omega) | (have hq := hF0.size; simp; omega) | (simp; omega)) _ rfl ?_; intro gn cn w6 hN hgN hliN hltN; have hNl := lie_low (b := w'.heap.size) hliN (by first | (have hq := hF4.size; simp; omega) | (have hq := hF2.size; simp; omega)); have hNG := lie_ne (n := us.length + nw.length) (c := cn) hNl hUG (fun q hq => (hGq q hq).2); (try (have hA6 := kept_ne hA hgN hAU)); (try (have hA6 := kept_ne hA2 hgN hAU)); (try (have hne6 : ga ≠ gn := Ne.symm (lie_apart hliN hAl (by first | exact hltA | exact Nat.lt_of_lt_of_le hltA hb2.size | (simp; omega)) hUG (fun q hq => (hUq q hq).2)))); have hF6 : Below (g7 + 1) w' w6 := fr_grown (by first | assumption | exact hFa _ _ (by assumption)) hgN (fun q hq => (hUq q hq).1) hg7w; obtain ⟨f10, f11, f12, f13⟩ := HL w6 hF6; (try (have hG6 : w6.ownsRow (g7 + 1) 36 1 (.slice G j cg) j (natL gs) := kept_ne (by first | assumption | exact World.ownsRow.alloc (by assumption) _) hgN hGU)); (try (have eE6 : w6.heap[w'.heap.size]? = some (.cells #[.int .u64 Gt] 36 (0, 0)) := cell_kept eE hgN (fun e => by have := (hUq _ e).2; omega))); (try (have eE6 := cell_kept (heap_alloc_new w2 (.cells #[.int .u64 Gt] 36)) hgN (fun e => by have := (hUq _ e).2; have := hF2.size; omega)))))
                    refine hK.out _ _ (by (try dsimp only); (first | with_reducible assumption | (refine HK _ ?_; first | exact Below.mono (by assumption) (Nat.le_succ g7) | exact Below.mono (hFa _ _ (by assumption)) (Nat.le_succ g7) | exact (Below.mono (by assumption) (Nat.le_succ g7)).setCell (Nat.le_refl _) _ | exact ((Below.mono (by assumption) (Nat.le_succ g7)).setCell (Nat.le_refl _) _).setCell (Nat.le_refl _) _))) (fun hHeld6 => ?_)
                    clear hK K hHeld5
                    try simp only [Act.put, List.setIfInBounds_toArray, List.set_cons_zero, List.set_cons_succ]
                    refine wpAnyH_ready (rs := [18]) (by kernel_rfl) (by simp) ?_
                    refine held_cons (by rfl) (fun K hK => ?_) ?_
                    · go_simp
                      refine hK.out _ _ (by (try dsimp only); (first | with_reducible assumption | (refine HK _ ?_; first | exact Below.mono (by assumption) (Nat.le_succ g7) | exact Below.mono (hFa _ _ (by assumption)) (Nat.le_succ g7) | exact (Below.mono (by assumption) (Nat.le_succ g7)).setCell (Nat.le_refl _) _ | exact ((Below.mono (by assumption) (Nat.le_succ g7)).setCell (Nat.le_refl _) _).setCell (Nat.le_refl _) _))) (fun hHeld7 => ?_)
                      clear hK K hHeld6
                      try simp only [Act.put, List.setIfInBounds_toArray, List.set_cons_zero, List.set_cons_succ]
                      refine held_take (i := 19) (v := ?_) (by rfl) (by kernel_rfl) (by kernel_rfl) (by kernel_rfl) (fun _ _ _ h => h) (Or.inl ⟨by rfl, ?_⟩) hHeld7 ?_
                      rotate_left
                      · (intro w hSw; (try dsimp only at hSw); go_simp; try with_reducible rfl)
                      try simp only [Act.put, List.setIfInBounds_toArray, List.set_cons_zero, List.set_cons_succ]
                      refine wpAnyH_ready (rs := [20]) (by kernel_rfl) (by simp) ?_
                      refine held_cons (by rfl) (fun K hK => ?_) ?_
                      · go_simp
                        refine hK.out _ _ (by (try dsimp only); (first | with_reducible assumption | (refine HK _ ?_; first | exact Below.mono (by assumption) (Nat.le_succ g7) | exact Below.mono (hFa _ _ (by assumption)) (Nat.le_succ g7) | exact (Below.mono (by assumption) (Nat.le_succ g7)).setCell (Nat.le_refl _) _ | exact ((Below.mono (by assumption) (Nat.le_succ g7)).setCell (Nat.le_refl _) _).setCell (Nat.le_refl _) _))) (fun hHeld8 => ?_)
                        clear hK K hHeld7
                        try simp only [Act.put, List.setIfInBounds_toArray, List.set_cons_zero, List.set_cons_succ]
                        refine wpAnyH_done (by kernel_rfl) ?_ _
                        refine NoPanic.normal ?_
                        clear hHeld8
                        have hgoal : Below (g7 + 1) w' w6 ∧ w6.ownsRow (g7 + 1) 36 1 (.slice (some ⟨ga, 0, none⟩) (j + 1) ca) (j + 1) (natL gs ++ [.int .u64 Gt]) ∧ w6.ownsRow (g7 + 1) 36 1 (.slice (some ⟨gn, 0, none⟩) (us.length + nw.length) cn) (us.length + nw.length) (u64V us ++ u64V nw) ∧ ga ≠ gn := ⟨hF6, by assumption, by assumption, by assumption⟩
                        obtain ⟨k1, k2, k3, k4⟩ := hgoal
                        have hg6 : w6.heap[g7]? = some (.cells #[.int .i64 0, .int .i64 0, .int .u64 0, .int .i64 0, .int .u64 0, .int .i64 0, .int .i64 0, .bool false, .int .i64 0, .int .u64 0, .slice G j cg, .slice U us.length cu] 41) := (k1.block _ (Nat.lt_succ_self _)).trans hT7
                        have hq2 := heap_setCell_same _ g7 11 _ _ (.slice (some ⟨gn, 0, none⟩) (us.length + nw.length) cn) (heap_setCell_same w6 g7 10 _ _ (.slice (some ⟨ga, 0, none⟩) (j + 1) ca) hg6)
                        have hga7 : g7 + 1 ≤ ga := (k2.lt ga rfl).1
                        have hgn7 : g7 + 1 ≤ gn := (k3.lt gn rfl).1
                        have hBz : Below g7 Z ((w6.setCell ⟨g7, 10, none⟩ (.slice (some ⟨ga, 0, none⟩) (j + 1) ca)).setCell ⟨g7, 11, none⟩ (.slice (some ⟨gn, 0, none⟩) (us.length + nw.length) cn)) :=
                          ((hbel.trans (k1.mono (Nat.le_succ g7))).setCell (Nat.le_refl g7) _).setCell (Nat.le_refl g7) _
                        have hoz : ∀ q : Nat, q ≠ g7 → ((w6.setCell ⟨g7, 10, none⟩ (.slice (some ⟨ga, 0, none⟩) (j + 1) ca)).setCell ⟨g7, 11, none⟩ (.slice (some ⟨gn, 0, none⟩) (us.length + nw.length) cn)).heap[q]? = w6.heap[q]? := fun q hq =>
                          (Below.heap_setCell _ ⟨g7, 11, none⟩ _ _ hq).trans (Below.heap_setCell w6 ⟨g7, 10, none⟩ _ _ hq)
                        generalize ((w6.setCell ⟨g7, 10, none⟩ (.slice (some ⟨ga, 0, none⟩) (j + 1) ca)).setCell ⟨g7, 11, none⟩ (.slice (some ⟨gn, 0, none⟩) (us.length + nw.length) cn)) = z at *
                        have hAz := own_keepAt k2 (w' := z) (fun q hq => by cases hq; exact hoz ga (by omega))
                        have hNz := own_keepAt k3 (w' := z) (fun q hq => by cases hq; exact hoz gn (by omega))
                        have HAz := hide hAz
                        have HNz := hide hNz
                        have Hq2 := hide hq2
                        have HBz := hide hBz
                        clear hAz hNz hq2 hBz hoz k1 k2 k3 hg6
                        go_wp2
                        go_roundw
                        case rel =>
                          refine ⟨j + 1, gs ++ [Gt], us ++ nw, some ⟨ga, 0, none⟩, ca, some ⟨gn, 0, none⟩, cn, by omega, by go_num, Hnx, by simp [hgs], by rw [List.length_append]; omega, HBz.out, ?_, ?_, ?_, ?_⟩
                          · rw [List.length_append]
                            simpa using Hq2.out
                          · rw [natL_snoc]
                            exact HAz.out
                          · rw [List.length_append]
                            simpa using HNz.out
                          · intro q hq hq2
                            cases hq
                            cases hq2
                            exact k4 rfl
                        case measure => simp [intOf]; omega
                      exact AllReadyH.nil
                    exact AllReadyH.nil
                  exact AllReadyH.nil
                exact AllReadyH.nil
              refine held_cons (by rfl) (fun K hK => ?_) ?_
              · go_simp
                (first | (go_at_call 56; refine (HNew.out _ (hwF _ (by first | assumption | exact hFa _ _ (by assumption)))).mono ?_; rintro e w2 ⟨rfl, hC, hb2⟩; have hCs := call_size (g7 := g7) (Y := w') (by first | assumption | exact hFa _ _ (by assumption)) hb2; have hF2 : Below (g7 + 1) w' w2 := fr_call (by first | assumption | exact hFa _ _ (by assumption)) hb2 hg7w; obtain ⟨c10, c11, c12, c13⟩ := HL w2 hF2; (try (have hG2 : w2.ownsRow (g7 + 1) 36 1 (.slice G j cg) j (natL gs) := own_below (by first | assumption | exact World.ownsRow.alloc (by assumption) _) hb2)); (try (have hU2 : w2.ownsRow (g7 + 1) 36 1 (.slice U us.length cu) us.length (u64V us) := own_below (by first | assumption | exact World.ownsRow.alloc (by assumption) _) hb2)); (try (have eE : w2.heap[w'.heap.size]? = some (.cells #[.int .u64 Gt] 36 (0, 0)) := (hb2.block w'.heap.size (by simp)).trans hEE)); (try (have hA2 := own_below hA hb2))) | (refine step_append_lies _ rfl (.tmp 23) (.tmp 31) 39 rfl (g7 + 1) 36 i0 _ 1 8 und_u64s hi hz0 hz1 hz2 rfl (by decide) (.slice G j cg) j (natL gs) rfl (by first | assumption | exact World.ownsRow.alloc (by assumption) _) _ 1 1 [.int .u64 Gt] rfl rfl (by first | exact cell_one_new _ _ _ | exact one_cell (by assumption)) (by simp [Value.oneCell']) (by omega) (by unfold maxLen; omega) (by omega) (by first | (have hq := hF6.size; simp; omega) | (have hq := hF4.size; simp; omega) | (have hq := hF2.size; simp; omega) | (have hq := hF0.size; simp; omega) | (simp; omega)) _ rfl ?_; intro ga ca w4 hA hgA hliA hltA; have hAl := lie_low (b := w'.heap.size) hliA (by first | (have hq := hF6.size; simp; omega) | (have hq := hF2.size; simp; omega) | simp); have hAU := lie_ne (n := j + 1) (c := ca) hAl hGU (fun q hq => (hUq q hq).2); (try (have hne4 : ga ≠ gn := lie_apart hliA hNl (by first | exact hltN | (simp; omega)) hGU (fun q hq => (hGq q hq).2))); have hF4 : Below (g7 + 1) w' w4 := fr_grown (by first | assumption | exact hFa _ _ (by assumption)) hgA (fun q hq => (hGq q hq).1) hg7w; obtain ⟨d10, d11, d12, d13⟩ := HL w4 hF4; (try (have hU4 : w4.ownsRow (g7 + 1) 36 1 (.slice U us.length cu) us.length (u64V us) := kept_ne (by first | assumption | exact World.ownsRow.alloc (by assumption) _) hgA hUG)); (try (have hC4 := kept_ne hC hgA (fun q hq hq2 => by cases hq; have := (hGq _ hq2).2; omega))); (try (have hC4 := kept_ne (hC.alloc _) hgA (fun q hq hq2 => by cases hq; have := (hGq _ hq2).2; omega))); (try (have hN4 := kept_ne hN hgA hNG)); (try (have hN4 := kept_ne (hN.alloc _) hgA hNG))) | (refine step_append_lies _ rfl (.tmp 34) (.tmp 37) 39 rfl (g7 + 1) 36 i0 _ 1 8 und_u64s hi hz0 hz1 hz2 rfl (by decide) (.slice U us.length cu) us.length (u64V us) rfl (by first | assumption | exact World.ownsRow.alloc (by assumption) _) _ nw.length _ (u64V nw) rfl (by simp) (own_cells (by first | assumption | exact World.ownsRow.alloc (by assumption) _)) (by simp [Value.oneCell']) hnw1 (by unfold maxLen; omega) (by omega) (by first | (have hq := hF6.size; simp; omega) | (have hq := hF4.size; simp; omega) | (have hq := hF2.size; simp; omega) | (have hq := hF0.size; simp; omega) | (simp; omega)) _ rfl ?_; intro gn cn w6 hN hgN hliN hltN; have hNl := lie_low (b := w'.heap.size) hliN (by first | (have hq := hF4.size; simp; omega) | (have hq := hF2.size; simp; omega)); have hNG := lie_ne (n := us.length + nw.length) (c := cn) hNl hUG (fun q hq => (hGq q hq).2); (try (have hA6 := kept_ne hA hgN hAU)); (try (have hA6 := kept_ne hA2 hgN hAU)); (try (have hne6 : ga ≠ gn := Ne.symm (lie_apart hliN hAl (by first | exact hltA | exact Nat.lt_of_lt_of_le hltA hb2.size | (simp; omega)) hUG (fun q hq => (hUq q hq).2)))); have hF6 : Below (g7 + 1) w' w6 := fr_grown (by first | assumption | exact hFa _ _ (by assumption)) hgN (fun q hq => (hUq q hq).1) hg7w; obtain ⟨f10, f11, f12, f13⟩ := HL w6 hF6; (try (have hG6 : w6.ownsRow (g7 + 1) 36 1 (.slice G j cg) j (natL gs) := kept_ne (by first | assumption | exact World.ownsRow.alloc (by assumption) _) hgN hGU)); (try (have eE6 : w6.heap[w'.heap.size]? = some (.cells #[.int .u64 Gt] 36 (0, 0)) := cell_kept eE hgN (fun e => by have := (hUq _ e).2; omega))); (try (have eE6 := cell_kept (heap_alloc_new w2 (.cells #[.int .u64 Gt] 36)) hgN (fun e => by have := (hUq _ e).2; have := hF2.size; omega)))))
                go_wp2_with fail
                refine hK.out _ _ (by (try dsimp only); (first | with_reducible assumption | (refine HK _ ?_; first | exact Below.mono (by assumption) (Nat.le_succ g7) | exact Below.mono (hFa _ _ (by assumption)) (Nat.le_succ g7) | exact (Below.mono (by assumption) (Nat.le_succ g7)).setCell (Nat.le_refl _) _ | exact ((Below.mono (by assumption) (Nat.le_succ g7)).setCell (Nat.le_refl _) _).setCell (Nat.le_refl _) _))) (fun hHeld9 => ?_)
                clear hK K hHeld3
                try simp only [Act.put, List.setIfInBounds_toArray, List.set_cons_zero, List.set_cons_succ]
                refine wpAnyH_ready (rs := [12]) (by kernel_rfl) (by simp) ?_
                refine held_cons (by rfl) (fun K hK => ?_) ?_
                · go_simp
                  refine hK.out _ _ (by (try dsimp only); (first | with_reducible assumption | (refine HK _ ?_; first | exact Below.mono (by assumption) (Nat.le_succ g7) | exact Below.mono (hFa _ _ (by assumption)) (Nat.le_succ g7) | exact (Below.mono (by assumption) (Nat.le_succ g7)).setCell (Nat.le_refl _) _ | exact ((Below.mono (by assumption) (Nat.le_succ g7)).setCell (Nat.le_refl _) _).setCell (Nat.le_refl _) _))) (fun hHeld10 => ?_)
                  clear hK K hHeld9
                  try simp only [Act.put, List.setIfInBounds_toArray, List.set_cons_zero, List.set_cons_succ]
                  refine held_take (i := 17) (v := ?_) (by rfl) (by kernel_rfl) (by kernel_rfl) (by kernel_rfl) (fun _ _ _ h => h) (Or.inl ⟨by rfl, ?_⟩) hHeld10 ?_
                  rotate_left
                  · (intro w hSw; (try dsimp only at hSw); go_simp; try with_reducible rfl)
                  try simp only [Act.put, List.setIfInBounds_toArray, List.set_cons_zero, List.set_cons_succ]
                  refine wpAnyH_ready (rs := [16]) (by kernel_rfl) (by simp) ?_
                  refine held_cons (by rfl) (fun K hK => ?_) ?_
                  · (first | (go_at_call 56; refine (HNew.out _ (hwF _ (by first | assumption | exact hFa _ _ (by assumption)))).mono ?_; rintro e w2 ⟨rfl, hC, hb2⟩; have hCs := call_size (g7 := g7) (Y := w') (by first | assumption | exact hFa _ _ (by assumption)) hb2; have hF2 : Below (g7 + 1) w' w2 := fr_call (by first | assumption | exact hFa _ _ (by assumption)) hb2 hg7w; obtain ⟨c10, c11, c12, c13⟩ := HL w2 hF2; (try (have hG2 : w2.ownsRow (g7 + 1) 36 1 (.slice G j cg) j (natL gs) := own_below (by first | assumption | exact World.ownsRow.alloc (by assumption) _) hb2)); (try (have hU2 : w2.ownsRow (g7 + 1) 36 1 (.slice U us.length cu) us.length (u64V us) := own_below (by first | assumption | exact World.ownsRow.alloc (by assumption) _) hb2)); (try (have eE : w2.heap[w'.heap.size]? = some (.cells #[.int .u64 Gt] 36 (0, 0)) := (hb2.block w'.heap.size (by simp)).trans hEE)); (try (have hA2 := own_below hA hb2))) | (refine step_append_lies _ rfl (.tmp 23) (.tmp 31) 39 rfl (g7 + 1) 36 i0 _ 1 8 und_u64s hi hz0 hz1 hz2 rfl (by decide) (.slice G j cg) j (natL gs) rfl (by first | assumption | exact World.ownsRow.alloc (by assumption) _) _ 1 1 [.int .u64 Gt] rfl rfl (by first | exact cell_one_new _ _ _ | exact one_cell (by assumption)) (by simp [Value.oneCell']) (by omega) (by unfold maxLen; omega) (by omega) (by first | (have hq := hF6.size; simp; omega) | (have hq := hF4.size; simp; omega) | (have hq := hF2.size; simp; omega) | (have hq := hF0.size; simp; omega) | (simp; omega)) _ rfl ?_; intro ga ca w4 hA hgA hliA hltA; have hAl := lie_low (b := w'.heap.size) hliA (by first | (have hq := hF6.size; simp; omega) | (have hq := hF2.size; simp; omega) | simp); have hAU := lie_ne (n := j + 1) (c := ca) hAl hGU (fun q hq => (hUq q hq).2); (try (have hne4 : ga ≠ gn := lie_apart hliA hNl (by first | exact hltN | (simp; omega)) hGU (fun q hq => (hGq q hq).2))); have hF4 : Below (g7 + 1) w' w4 := fr_grown (by first | assumption | exact hFa _ _ (by assumption)) hgA (fun q hq => (hGq q hq).1) hg7w; obtain ⟨d10, d11, d12, d13⟩ := HL w4 hF4; (try (have hU4 : w4.ownsRow (g7 + 1) 36 1 (.slice U us.length cu) us.length (u64V us) := kept_ne (by first | assumption | exact World.ownsRow.alloc (by assumption) _) hgA hUG)); (try (have hC4 := kept_ne hC hgA (fun q hq hq2 => by cases hq; have := (hGq _ hq2).2; omega))); (try (have hC4 := kept_ne (hC.alloc _) hgA (fun q hq hq2 => by cases hq; have := (hGq _ hq2).2; omega))); (try (have hN4 := kept_ne hN hgA hNG)); (try (have hN4 := kept_ne (hN.alloc _) hgA hNG))) | (refine step_append_lies _ rfl (.tmp 34) (.tmp 37) 39 rfl (g7 + 1) 36 i0 _ 1 8 und_u64s hi hz0 hz1 hz2 rfl (by decide) (.slice U us.length cu) us.length (u64V us) rfl (by first | assumption | exact World.ownsRow.alloc (by assumption) _) _ nw.length _ (u64V nw) rfl (by simp) (own_cells (by first | assumption | exact World.ownsRow.alloc (by assumption) _)) (by simp [Value.oneCell']) hnw1 (by unfold maxLen; omega) (by omega) (by first | (have hq := hF6.size; simp; omega) | (have hq := hF4.size; simp; omega) | (have hq := hF2.size; simp; omega) | (have hq := hF0.size; simp; omega) | (simp; omega)) _ rfl ?_; intro gn cn w6 hN hgN hliN hltN; have hNl := lie_low (b := w'.heap.size) hliN (by first | (have hq := hF4.size; simp; omega) | (have hq := hF2.size; simp; omega)); have hNG := lie_ne (n := us.length + nw.length) (c := cn) hNl hUG (fun q hq => (hGq q hq).2); (try (have hA6 := kept_ne hA hgN hAU)); (try (have hA6 := kept_ne hA2 hgN hAU)); (try (have hne6 : ga ≠ gn := Ne.symm (lie_apart hliN hAl (by first | exact hltA | exact Nat.lt_of_lt_of_le hltA hb2.size | (simp; omega)) hUG (fun q hq => (hUq q hq).2)))); have hF6 : Below (g7 + 1) w' w6 := fr_grown (by first | assumption | exact hFa _ _ (by assumption)) hgN (fun q hq => (hUq q hq).1) hg7w; obtain ⟨f10, f11, f12, f13⟩ := HL w6 hF6; (try (have hG6 : w6.ownsRow (g7 + 1) 36 1 (.slice G j cg) j (natL gs) := kept_ne (by first | assumption | exact World.ownsRow.alloc (by assumption) _) hgN hGU)); (try (have eE6 : w6.heap[w'.heap.size]? = some (.cells #[.int .u64 Gt] 36 (0, 0)) := cell_kept eE hgN (fun e => by have := (hUq _ e).2; omega))); (try (have eE6 := cell_kept (heap_alloc_new w2 (.cells #[.int .u64 Gt] 36)) hgN (fun e => by have := (hUq _ e).2; have := hF2.size; omega)))))
                    refine hK.out _ _ (by (try dsimp only); (first | with_reducible assumption | (refine HK _ ?_; first | exact Below.mono (by assumption) (Nat.le_succ g7) | exact Below.mono (hFa _ _ (by assumption)) (Nat.le_succ g7) | exact (Below.mono (by assumption) (Nat.le_succ g7)).setCell (Nat.le_refl _) _ | exact ((Below.mono (by assumption) (Nat.le_succ g7)).setCell (Nat.le_refl _) _).setCell (Nat.le_refl _) _))) (fun hHeld11 => ?_)
                    clear hK K hHeld10
                    try simp only [Act.put, List.setIfInBounds_toArray, List.set_cons_zero, List.set_cons_succ]
                    refine wpAnyH_ready (rs := [18]) (by kernel_rfl) (by simp) ?_
                    refine held_cons (by rfl) (fun K hK => ?_) ?_
                    · go_simp
                      refine hK.out _ _ (by (try dsimp only); (first | with_reducible assumption | (refine HK _ ?_; first | exact Below.mono (by assumption) (Nat.le_succ g7) | exact Below.mono (hFa _ _ (by assumption)) (Nat.le_succ g7) | exact (Below.mono (by assumption) (Nat.le_succ g7)).setCell (Nat.le_refl _) _ | exact ((Below.mono (by assumption) (Nat.le_succ g7)).setCell (Nat.le_refl _) _).setCell (Nat.le_refl _) _))) (fun hHeld12 => ?_)
                      clear hK K hHeld11
                      try simp only [Act.put, List.setIfInBounds_toArray, List.set_cons_zero, List.set_cons_succ]
                      refine held_take (i := 19) (v := ?_) (by rfl) (by kernel_rfl) (by kernel_rfl) (by kernel_rfl) (fun _ _ _ h => h) (Or.inl ⟨by rfl, ?_⟩) hHeld12 ?_
                      rotate_left
                      · (intro w hSw; (try dsimp only at hSw); go_simp; try with_reducible rfl)
                      try simp only [Act.put, List.setIfInBounds_toArray, List.set_cons_zero, List.set_cons_succ]
                      refine wpAnyH_ready (rs := [20]) (by kernel_rfl) (by simp) ?_
                      refine held_cons (by rfl) (fun K hK => ?_) ?_
                      · go_simp
                        refine hK.out _ _ (by (try dsimp only); (first | with_reducible assumption | (refine HK _ ?_; first | exact Below.mono (by assumption) (Nat.le_succ g7) | exact Below.mono (hFa _ _ (by assumption)) (Nat.le_succ g7) | exact (Below.mono (by assumption) (Nat.le_succ g7)).setCell (Nat.le_refl _) _ | exact ((Below.mono (by assumption) (Nat.le_succ g7)).setCell (Nat.le_refl _) _).setCell (Nat.le_refl _) _))) (fun hHeld13 => ?_)
                        clear hK K hHeld12
                        try simp only [Act.put, List.setIfInBounds_toArray, List.set_cons_zero, List.set_cons_succ]
                        refine wpAnyH_done (by kernel_rfl) ?_ _
                        refine NoPanic.normal ?_
                        clear hHeld13
                        have hgoal : Below (g7 + 1) w' w6 ∧ w6.ownsRow (g7 + 1) 36 1 (.slice (some ⟨ga, 0, none⟩) (j + 1) ca) (j + 1) (natL gs ++ [.int .u64 Gt]) ∧ w6.ownsRow (g7 + 1) 36 1 (.slice (some ⟨gn, 0, none⟩) (us.length + nw.length) cn) (us.length + nw.length) (u64V us ++ u64V nw) ∧ ga ≠ gn := ⟨hF6, by assumption, by assumption, by assumption⟩
                        obtain ⟨k1, k2, k3, k4⟩ := hgoal
                        have hg6 : w6.heap[g7]? = some (.cells #[.int .i64 0, .int .i64 0, .int .u64 0, .int .i64 0, .int .u64 0, .int .i64 0, .int .i64 0, .bool false, .int .i64 0, .int .u64 0, .slice G j cg, .slice U us.length cu] 41) := (k1.block _ (Nat.lt_succ_self _)).trans hT7
                        have hq2 := heap_setCell_same _ g7 11 _ _ (.slice (some ⟨gn, 0, none⟩) (us.length + nw.length) cn) (heap_setCell_same w6 g7 10 _ _ (.slice (some ⟨ga, 0, none⟩) (j + 1) ca) hg6)
                        have hga7 : g7 + 1 ≤ ga := (k2.lt ga rfl).1
                        have hgn7 : g7 + 1 ≤ gn := (k3.lt gn rfl).1
                        have hBz : Below g7 Z ((w6.setCell ⟨g7, 10, none⟩ (.slice (some ⟨ga, 0, none⟩) (j + 1) ca)).setCell ⟨g7, 11, none⟩ (.slice (some ⟨gn, 0, none⟩) (us.length + nw.length) cn)) :=
                          ((hbel.trans (k1.mono (Nat.le_succ g7))).setCell (Nat.le_refl g7) _).setCell (Nat.le_refl g7) _
                        have hoz : ∀ q : Nat, q ≠ g7 → ((w6.setCell ⟨g7, 10, none⟩ (.slice (some ⟨ga, 0, none⟩) (j + 1) ca)).setCell ⟨g7, 11, none⟩ (.slice (some ⟨gn, 0, none⟩) (us.length + nw.length) cn)).heap[q]? = w6.heap[q]? := fun q hq =>
                          (Below.heap_setCell _ ⟨g7, 11, none⟩ _ _ hq).trans (Below.heap_setCell w6 ⟨g7, 10, none⟩ _ _ hq)
                        generalize ((w6.setCell ⟨g7, 10, none⟩ (.slice (some ⟨ga, 0, none⟩) (j + 1) ca)).setCell ⟨g7, 11, none⟩ (.slice (some ⟨gn, 0, none⟩) (us.length + nw.length) cn)) = z at *
                        have hAz := own_keepAt k2 (w' := z) (fun q hq => by cases hq; exact hoz ga (by omega))
                        have hNz := own_keepAt k3 (w' := z) (fun q hq => by cases hq; exact hoz gn (by omega))
                        have HAz := hide hAz
                        have HNz := hide hNz
                        have Hq2 := hide hq2
                        have HBz := hide hBz
                        clear hAz hNz hq2 hBz hoz k1 k2 k3 hg6
                        go_wp2
                        go_roundw
                        case rel =>
                          refine ⟨j + 1, gs ++ [Gt], us ++ nw, some ⟨ga, 0, none⟩, ca, some ⟨gn, 0, none⟩, cn, by omega, by go_num, Hnx, by simp [hgs], by rw [List.length_append]; omega, HBz.out, ?_, ?_, ?_, ?_⟩
                          · rw [List.length_append]
                            simpa using Hq2.out
                          · rw [natL_snoc]
                            exact HAz.out
                          · rw [List.length_append]
                            simpa using HNz.out
                          · intro q hq hq2
                            cases hq
                            cases hq2
                            exact k4 rfl
                        case measure => simp [intOf]; omega
                      exact AllReadyH.nil
                    exact AllReadyH.nil
                  exact AllReadyH.nil
                exact AllReadyH.nil
              exact AllReadyH.nil
            refine held_cons (by rfl) (fun K hK => ?_) ?_
            · go_simp
              refine hK.out _ _ (by (try dsimp only); (first | with_reducible assumption | (refine HK _ ?_; first | exact Below.mono (by assumption) (Nat.le_succ g7) | exact Below.mono (hFa _ _ (by assumption)) (Nat.le_succ g7) | exact (Below.mono (by assumption) (Nat.le_succ g7)).setCell (Nat.le_refl _) _ | exact ((Below.mono (by assumption) (Nat.le_succ g7)).setCell (Nat.le_refl _) _).setCell (Nat.le_refl _) _))) (fun hHeld14 => ?_)
              clear hK K hHeld2
              try simp only [Act.put, List.setIfInBounds_toArray, List.set_cons_zero, List.set_cons_succ]
              refine wpAnyH_ready (rs := [10]) (by kernel_rfl) (by simp) ?_
              refine held_cons (by rfl) (fun K hK => ?_) ?_
              · (first | (go_at_call 56; refine (HNew.out _ (hwF _ (by first | assumption | exact hFa _ _ (by assumption)))).mono ?_; rintro e w2 ⟨rfl, hC, hb2⟩; have hCs := call_size (g7 := g7) (Y := w') (by first | assumption | exact hFa _ _ (by assumption)) hb2; have hF2 : Below (g7 + 1) w' w2 := fr_call (by first | assumption | exact hFa _ _ (by assumption)) hb2 hg7w; obtain ⟨c10, c11, c12, c13⟩ := HL w2 hF2; (try (have hG2 : w2.ownsRow (g7 + 1) 36 1 (.slice G j cg) j (natL gs) := own_below (by first | assumption | exact World.ownsRow.alloc (by assumption) _) hb2)); (try (have hU2 : w2.ownsRow (g7 + 1) 36 1 (.slice U us.length cu) us.length (u64V us) := own_below (by first | assumption | exact World.ownsRow.alloc (by assumption) _) hb2)); (try (have eE : w2.heap[w'.heap.size]? = some (.cells #[.int .u64 Gt] 36 (0, 0)) := (hb2.block w'.heap.size (by simp)).trans hEE)); (try (have hA2 := own_below hA hb2))) | (refine step_append_lies _ rfl (.tmp 23) (.tmp 31) 39 rfl (g7 + 1) 36 i0 _ 1 8 und_u64s hi hz0 hz1 hz2 rfl (by decide) (.slice G j cg) j (natL gs) rfl (by first | assumption | exact World.ownsRow.alloc (by assumption) _) _ 1 1 [.int .u64 Gt] rfl rfl (by first | exact cell_one_new _ _ _ | exact one_cell (by assumption)) (by simp [Value.oneCell']) (by omega) (by unfold maxLen; omega) (by omega) (by first | (have hq := hF6.size; simp; omega) | (have hq := hF4.size; simp; omega) | (have hq := hF2.size; simp; omega) | (have hq := hF0.size; simp; omega) | (simp; omega)) _ rfl ?_; intro ga ca w4 hA hgA hliA hltA; have hAl := lie_low (b := w'.heap.size) hliA (by first | (have hq := hF6.size; simp; omega) | (have hq := hF2.size; simp; omega) | simp); have hAU := lie_ne (n := j + 1) (c := ca) hAl hGU (fun q hq => (hUq q hq).2); (try (have hne4 : ga ≠ gn := lie_apart hliA hNl (by first | exact hltN | (simp; omega)) hGU (fun q hq => (hGq q hq).2))); have hF4 : Below (g7 + 1) w' w4 := fr_grown (by first | assumption | exact hFa _ _ (by assumption)) hgA (fun q hq => (hGq q hq).1) hg7w; obtain ⟨d10, d11, d12, d13⟩ := HL w4 hF4; (try (have hU4 : w4.ownsRow (g7 + 1) 36 1 (.slice U us.length cu) us.length (u64V us) := kept_ne (by first | assumption | exact World.ownsRow.alloc (by assumption) _) hgA hUG)); (try (have hC4 := kept_ne hC hgA (fun q hq hq2 => by cases hq; have := (hGq _ hq2).2; omega))); (try (have hC4 := kept_ne (hC.alloc _) hgA (fun q hq hq2 => by cases hq; have := (hGq _ hq2).2; omega))); (try (have hN4 := kept_ne hN hgA hNG)); (try (have hN4 := kept_ne (hN.alloc _) hgA hNG))) | (refine step_append_lies _ rfl (.tmp 34) (.tmp 37) 39 rfl (g7 + 1) 36 i0 _ 1 8 und_u64s hi hz0 hz1 hz2 rfl (by decide) (.slice U us.length cu) us.length (u64V us) rfl (by first | assumption | exact World.ownsRow.alloc (by assumption) _) _ nw.length _ (u64V nw) rfl (by simp) (own_cells (by first | assumption | exact World.ownsRow.alloc (by assumption) _)) (by simp [Value.oneCell']) hnw1 (by unfold maxLen; omega) (by omega) (by first | (have hq := hF6.size; simp; omega) | (have hq := hF4.size; simp; omega) | (have hq := hF2.size; simp; omega) | (have hq := hF0.size; simp; omega) | (simp; omega)) _ rfl ?_; intro gn cn w6 hN hgN hliN hltN; have hNl := lie_low (b := w'.heap.size) hliN (by first | (have hq := hF4.size; simp; omega) | (have hq := hF2.size; simp; omega)); have hNG := lie_ne (n := us.length + nw.length) (c := cn) hNl hUG (fun q hq => (hGq q hq).2); (try (have hA6 := kept_ne hA hgN hAU)); (try (have hA6 := kept_ne hA2 hgN hAU)); (try (have hne6 : ga ≠ gn := Ne.symm (lie_apart hliN hAl (by first | exact hltA | exact Nat.lt_of_lt_of_le hltA hb2.size | (simp; omega)) hUG (fun q hq => (hUq q hq).2)))); have hF6 : Below (g7 + 1) w' w6 := fr_grown (by first | assumption | exact hFa _ _ (by assumption)) hgN (fun q hq => (hUq q hq).1) hg7w; obtain ⟨f10, f11, f12, f13⟩ := HL w6 hF6; (try (have hG6 : w6.ownsRow (g7 + 1) 36 1 (.slice G j cg) j (natL gs) := kept_ne (by first | assumption | exact World.ownsRow.alloc (by assumption) _) hgN hGU)); (try (have eE6 : w6.heap[w'.heap.size]? = some (.cells #[.int .u64 Gt] 36 (0, 0)) := cell_kept eE hgN (fun e => by have := (hUq _ e).2; omega))); (try (have eE6 := cell_kept (heap_alloc_new w2 (.cells #[.int .u64 Gt] 36)) hgN (fun e => by have := (hUq _ e).2; have := hF2.size; omega)))))
                refine hK.out _ _ (by (try dsimp only); (first | with_reducible assumption | (refine HK _ ?_; first | exact Below.mono (by assumption) (Nat.le_succ g7) | exact Below.mono (hFa _ _ (by assumption)) (Nat.le_succ g7) | exact (Below.mono (by assumption) (Nat.le_succ g7)).setCell (Nat.le_refl _) _ | exact ((Below.mono (by assumption) (Nat.le_succ g7)).setCell (Nat.le_refl _) _).setCell (Nat.le_refl _) _))) (fun hHeld15 => ?_)
                clear hK K hHeld14
                try simp only [Act.put, List.setIfInBounds_toArray, List.set_cons_zero, List.set_cons_succ]
                refine held_take (i := 17) (v := ?_) (by rfl) (by kernel_rfl) (by kernel_rfl) (by kernel_rfl) (fun _ _ _ h => h) (Or.inl ⟨by rfl, ?_⟩) hHeld15 ?_
                rotate_left
                · (intro w hSw; (try dsimp only at hSw); go_simp; try with_reducible rfl)
                try simp only [Act.put, List.setIfInBounds_toArray, List.set_cons_zero, List.set_cons_succ]
                refine wpAnyH_ready (rs := [15]) (by kernel_rfl) (by simp) ?_
                refine held_cons (by rfl) (fun K hK => ?_) ?_
                · go_simp
                  (first | (go_at_call 56; refine (HNew.out _ (hwF _ (by first | assumption | exact hFa _ _ (by assumption)))).mono ?_; rintro e w2 ⟨rfl, hC, hb2⟩; have hCs := call_size (g7 := g7) (Y := w') (by first | assumption | exact hFa _ _ (by assumption)) hb2; have hF2 : Below (g7 + 1) w' w2 := fr_call (by first | assumption | exact hFa _ _ (by assumption)) hb2 hg7w; obtain ⟨c10, c11, c12, c13⟩ := HL w2 hF2; (try (have hG2 : w2.ownsRow (g7 + 1) 36 1 (.slice G j cg) j (natL gs) := own_below (by first | assumption | exact World.ownsRow.alloc (by assumption) _) hb2)); (try (have hU2 : w2.ownsRow (g7 + 1) 36 1 (.slice U us.length cu) us.length (u64V us) := own_below (by first | assumption | exact World.ownsRow.alloc (by assumption) _) hb2)); (try (have eE : w2.heap[w'.heap.size]? = some (.cells #[.int .u64 Gt] 36 (0, 0)) := (hb2.block w'.heap.size (by simp)).trans hEE)); (try (have hA2 := own_below hA hb2))) | (refine step_append_lies _ rfl (.tmp 23) (.tmp 31) 39 rfl (g7 + 1) 36 i0 _ 1 8 und_u64s hi hz0 hz1 hz2 rfl (by decide) (.slice G j cg) j (natL gs) rfl (by first | assumption | exact World.ownsRow.alloc (by assumption) _) _ 1 1 [.int .u64 Gt] rfl rfl (by first | exact cell_one_new _ _ _ | exact one_cell (by assumption)) (by simp [Value.oneCell']) (by omega) (by unfold maxLen; omega) (by omega) (by first | (have hq := hF6.size; simp; omega) | (have hq := hF4.size; simp; omega) | (have hq := hF2.size; simp; omega) | (have hq := hF0.size; simp; omega) | (simp; omega)) _ rfl ?_; intro ga ca w4 hA hgA hliA hltA; have hAl := lie_low (b := w'.heap.size) hliA (by first | (have hq := hF6.size; simp; omega) | (have hq := hF2.size; simp; omega) | simp); have hAU := lie_ne (n := j + 1) (c := ca) hAl hGU (fun q hq => (hUq q hq).2); (try (have hne4 : ga ≠ gn := lie_apart hliA hNl (by first | exact hltN | (simp; omega)) hGU (fun q hq => (hGq q hq).2))); have hF4 : Below (g7 + 1) w' w4 := fr_grown (by first | assumption | exact hFa _ _ (by assumption)) hgA (fun q hq => (hGq q hq).1) hg7w; obtain ⟨d10, d11, d12, d13⟩ := HL w4 hF4; (try (have hU4 : w4.ownsRow (g7 + 1) 36 1 (.slice U us.length cu) us.length (u64V us) := kept_ne (by first | assumption | exact World.ownsRow.alloc (by assumption) _) hgA hUG)); (try (have hC4 := kept_ne hC hgA (fun q hq hq2 => by cases hq; have := (hGq _ hq2).2; omega))); (try (have hC4 := kept_ne (hC.alloc _) hgA (fun q hq hq2 => by cases hq; have := (hGq _ hq2).2; omega))); (try (have hN4 := kept_ne hN hgA hNG)); (try (have hN4 := kept_ne (hN.alloc _) hgA hNG))) | (refine step_append_lies _ rfl (.tmp 34) (.tmp 37) 39 rfl (g7 + 1) 36 i0 _ 1 8 und_u64s hi hz0 hz1 hz2 rfl (by decide) (.slice U us.length cu) us.length (u64V us) rfl (by first | assumption | exact World.ownsRow.alloc (by assumption) _) _ nw.length _ (u64V nw) rfl (by simp) (own_cells (by first | assumption | exact World.ownsRow.alloc (by assumption) _)) (by simp [Value.oneCell']) hnw1 (by unfold maxLen; omega) (by omega) (by first | (have hq := hF6.size; simp; omega) | (have hq := hF4.size; simp; omega) | (have hq := hF2.size; simp; omega) | (have hq := hF0.size; simp; omega) | (simp; omega)) _ rfl ?_; intro gn cn w6 hN hgN hliN hltN; have hNl := lie_low (b := w'.heap.size) hliN (by first | (have hq := hF4.size; simp; omega) | (have hq := hF2.size; simp; omega)); have hNG := lie_ne (n := us.length + nw.length) (c := cn) hNl hUG (fun q hq => (hGq q hq).2); (try (have hA6 := kept_ne hA hgN hAU)); (try (have hA6 := kept_ne hA2 hgN hAU)); (try (have hne6 : ga ≠ gn := Ne.symm (lie_apart hliN hAl (by first | exact hltA | exact Nat.lt_of_lt_of_le hltA hb2.size | (simp; omega)) hUG (fun q hq => (hUq q hq).2)))); have hF6 : Below (g7 + 1) w' w6 := fr_grown (by first | assumption | exact hFa _ _ (by assumption)) hgN (fun q hq => (hUq q hq).1) hg7w; obtain ⟨f10, f11, f12, f13⟩ := HL w6 hF6; (try (have hG6 : w6.ownsRow (g7 + 1) 36 1 (.slice G j cg) j (natL gs) := kept_ne (by first | assumption | exact World.ownsRow.alloc (by assumption) _) hgN hGU)); (try (have eE6 : w6.heap[w'.heap.size]? = some (.cells #[.int .u64 Gt] 36 (0, 0)) := cell_kept eE hgN (fun e => by have := (hUq _ e).2; omega))); (try (have eE6 := cell_kept (heap_alloc_new w2 (.cells #[.int .u64 Gt] 36)) hgN (fun e => by have := (hUq _ e).2; have := hF2.size; omega)))))
                  go_wp2_with fail
                  refine hK.out _ _ (by (try dsimp only); (first | with_reducible assumption | (refine HK _ ?_; first | exact Below.mono (by assumption) (Nat.le_succ g7) | exact Below.mono (hFa _ _ (by assumption)) (Nat.le_succ g7) | exact (Below.mono (by assumption) (Nat.le_succ g7)).setCell (Nat.le_refl _) _ | exact ((Below.mono (by assumption) (Nat.le_succ g7)).setCell (Nat.le_refl _) _).setCell (Nat.le_refl _) _))) (fun hHeld16 => ?_)
                  clear hK K hHeld15
                  try simp only [Act.put, List.setIfInBounds_toArray, List.set_cons_zero, List.set_cons_succ]
                  refine wpAnyH_ready (rs := [16]) (by kernel_rfl) (by simp) ?_
                  refine held_cons (by rfl) (fun K hK => ?_) ?_
                  · (first | (go_at_call 56; refine (HNew.out _ (hwF _ (by first | assumption | exact hFa _ _ (by assumption)))).mono ?_; rintro e w2 ⟨rfl, hC, hb2⟩; have hCs := call_size (g7 := g7) (Y := w') (by first | assumption | exact hFa _ _ (by assumption)) hb2; have hF2 : Below (g7 + 1) w' w2 := fr_call (by first | assumption | exact hFa _ _ (by assumption)) hb2 hg7w; obtain ⟨c10, c11, c12, c13⟩ := HL w2 hF2; (try (have hG2 : w2.ownsRow (g7 + 1) 36 1 (.slice G j cg) j (natL gs) := own_below (by first | assumption | exact World.ownsRow.alloc (by assumption) _) hb2)); (try (have hU2 : w2.ownsRow (g7 + 1) 36 1 (.slice U us.length cu) us.length (u64V us) := own_below (by first | assumption | exact World.ownsRow.alloc (by assumption) _) hb2)); (try (have eE : w2.heap[w'.heap.size]? = some (.cells #[.int .u64 Gt] 36 (0, 0)) := (hb2.block w'.heap.size (by simp)).trans hEE)); (try (have hA2 := own_below hA hb2))) | (refine step_append_lies _ rfl (.tmp 23) (.tmp 31) 39 rfl (g7 + 1) 36 i0 _ 1 8 und_u64s hi hz0 hz1 hz2 rfl (by decide) (.slice G j cg) j (natL gs) rfl (by first | assumption | exact World.ownsRow.alloc (by assumption) _) _ 1 1 [.int .u64 Gt] rfl rfl (by first | exact cell_one_new _ _ _ | exact one_cell (by assumption)) (by simp [Value.oneCell']) (by omega) (by unfold maxLen; omega) (by omega) (by first | (have hq := hF6.size; simp; omega) | (have hq := hF4.size; simp; omega) | (have hq := hF2.size; simp; omega) | (have hq := hF0.size; simp; omega) | (simp; omega)) _ rfl ?_; intro ga ca w4 hA hgA hliA hltA; have hAl := lie_low (b := w'.heap.size) hliA (by first | (have hq := hF6.size; simp; omega) | (have hq := hF2.size; simp; omega) | simp); have hAU := lie_ne (n := j + 1) (c := ca) hAl hGU (fun q hq => (hUq q hq).2); (try (have hne4 : ga ≠ gn := lie_apart hliA hNl (by first | exact hltN | (simp; omega)) hGU (fun q hq => (hGq q hq).2))); have hF4 : Below (g7 + 1) w' w4 := fr_grown (by first | assumption | exact hFa _ _ (by assumption)) hgA (fun q hq => (hGq q hq).1) hg7w; obtain ⟨d10, d11, d12, d13⟩ := HL w4 hF4; (try (have hU4 : w4.ownsRow (g7 + 1) 36 1 (.slice U us.length cu) us.length (u64V us) := kept_ne (by first | assumption | exact World.ownsRow.alloc (by assumption) _) hgA hUG)); (try (have hC4 := kept_ne hC hgA (fun q hq hq2 => by cases hq; have := (hGq _ hq2).2; omega))); (try (have hC4 := kept_ne (hC.alloc _) hgA (fun q hq hq2 => by cases hq; have := (hGq _ hq2).2; omega))); (try (have hN4 := kept_ne hN hgA hNG)); (try (have hN4 := kept_ne (hN.alloc _) hgA hNG))) | (refine step_append_lies _ rfl (.tmp 34) (.tmp 37) 39 rfl (g7 + 1) 36 i0 _ 1 8 und_u64s hi hz0 hz1 hz2 rfl (by decide) (.slice U us.length cu) us.length (u64V us) rfl (by first | assumption | exact World.ownsRow.alloc (by assumption) _) _ nw.length _ (u64V nw) rfl (by simp) (own_cells (by first | assumption | exact World.ownsRow.alloc (by assumption) _)) (by simp [Value.oneCell']) hnw1 (by unfold maxLen; omega) (by omega) (by first | (have hq := hF6.size; simp; omega) | (have hq := hF4.size; simp; omega) | (have hq := hF2.size; simp; omega) | (have hq := hF0.size; simp; omega) | (simp; omega)) _ rfl ?_; intro gn cn w6 hN hgN hliN hltN; have hNl := lie_low (b := w'.heap.size) hliN (by first | (have hq := hF4.size; simp; omega) | (have hq := hF2.size; simp; omega)); have hNG := lie_ne (n := us.length + nw.length) (c := cn) hNl hUG (fun q hq => (hGq q hq).2); (try (have hA6 := kept_ne hA hgN hAU)); (try (have hA6 := kept_ne hA2 hgN hAU)); (try (have hne6 : ga ≠ gn := Ne.symm (lie_apart hliN hAl (by first | exact hltA | exact Nat.lt_of_lt_of_le hltA hb2.size | (simp; omega)) hUG (fun q hq => (hUq q hq).2)))); have hF6 : Below (g7 + 1) w' w6 := fr_grown (by first | assumption | exact hFa _ _ (by assumption)) hgN (fun q hq => (hUq q hq).1) hg7w; obtain ⟨f10, f11, f12, f13⟩ := HL w6 hF6; (try (have hG6 : w6.ownsRow (g7 + 1) 36 1 (.slice G j cg) j (natL gs) := kept_ne (by first | assumption | exact World.ownsRow.alloc (by assumption) _) hgN hGU)); (try (have eE6 : w6.heap[w'.heap.size]? = some (.cells #[.int .u64 Gt] 36 (0, 0)) := cell_kept eE hgN (fun e => by have := (hUq _ e).2; omega))); (try (have eE6 := cell_kept (heap_alloc_new w2 (.cells #[.int .u64 Gt] 36)) hgN (fun e => by have := (hUq _ e).2; have := hF2.size; omega)))))
                    refine hK.out _ _ (by (try dsimp only); (first | with_reducible assumption | (refine HK _ ?_; first | exact Below.mono (by assumption) (Nat.le_succ g7) | exact Below.mono (hFa _ _ (by assumption)) (Nat.le_succ g7) | exact (Below.mono (by assumption) (Nat.le_succ g7)).setCell (Nat.le_refl _) _ | exact ((Below.mono (by assumption) (Nat.le_succ g7)).setCell (Nat.le_refl _) _).setCell (Nat.le_refl _) _))) (fun hHeld17 => ?_)
                    clear hK K hHeld16
                    try simp only [Act.put, List.setIfInBounds_toArray, List.set_cons_zero, List.set_cons_succ]
                    refine wpAnyH_ready (rs := [18]) (by kernel_rfl) (by simp) ?_
                    refine held_cons (by rfl) (fun K hK => ?_) ?_
                    · go_simp
                      refine hK.out _ _ (by (try dsimp only); (first | with_reducible assumption | (refine HK _ ?_; first | exact Below.mono (by assumption) (Nat.le_succ g7) | exact Below.mono (hFa _ _ (by assumption)) (Nat.le_succ g7) | exact (Below.mono (by assumption) (Nat.le_succ g7)).setCell (Nat.le_refl _) _ | exact ((Below.mono (by assumption) (Nat.le_succ g7)).setCell (Nat.le_refl _) _).setCell (Nat.le_refl _) _))) (fun hHeld18 => ?_)
                      clear hK K hHeld17
                      try simp only [Act.put, List.setIfInBounds_toArray, List.set_cons_zero, List.set_cons_succ]
                      refine held_take (i := 19) (v := ?_) (by rfl) (by kernel_rfl) (by kernel_rfl) (by kernel_rfl) (fun _ _ _ h => h) (Or.inl ⟨by rfl, ?_⟩) hHeld18 ?_
                      rotate_left
                      · (intro w hSw; (try dsimp only at hSw); go_simp; try with_reducible rfl)
                      try simp only [Act.put, List.setIfInBounds_toArray, List.set_cons_zero, List.set_cons_succ]
                      refine wpAnyH_ready (rs := [20]) (by kernel_rfl) (by simp) ?_
                      refine held_cons (by rfl) (fun K hK => ?_) ?_
                      · go_simp
                        refine hK.out _ _ (by (try dsimp only); (first | with_reducible assumption | (refine HK _ ?_; first | exact Below.mono (by assumption) (Nat.le_succ g7) | exact Below.mono (hFa _ _ (by assumption)) (Nat.le_succ g7) | exact (Below.mono (by assumption) (Nat.le_succ g7)).setCell (Nat.le_refl _) _ | exact ((Below.mono (by assumption) (Nat.le_succ g7)).setCell (Nat.le_refl _) _).setCell (Nat.le_refl _) _))) (fun hHeld19 => ?_)
                        clear hK K hHeld18
                        try simp only [Act.put, List.setIfInBounds_toArray, List.set_cons_zero, List.set_cons_succ]
                        refine wpAnyH_done (by kernel_rfl) ?_ _
                        refine NoPanic.normal ?_
                        clear hHeld19
                        have hgoal : Below (g7 + 1) w' w6 ∧ w6.ownsRow (g7 + 1) 36 1 (.slice (some ⟨ga, 0, none⟩) (j + 1) ca) (j + 1) (natL gs ++ [.int .u64 Gt]) ∧ w6.ownsRow (g7 + 1) 36 1 (.slice (some ⟨gn, 0, none⟩) (us.length + nw.length) cn) (us.length + nw.length) (u64V us ++ u64V nw) ∧ ga ≠ gn := ⟨hF6, by assumption, by assumption, by assumption⟩
                        obtain ⟨k1, k2, k3, k4⟩ := hgoal
                        have hg6 : w6.heap[g7]? = some (.cells #[.int .i64 0, .int .i64 0, .int .u64 0, .int .i64 0, .int .u64 0, .int .i64 0, .int .i64 0, .bool false, .int .i64 0, .int .u64 0, .slice G j cg, .slice U us.length cu] 41) := (k1.block _ (Nat.lt_succ_self _)).trans hT7
                        have hq2 := heap_setCell_same _ g7 11 _ _ (.slice (some ⟨gn, 0, none⟩) (us.length + nw.length) cn) (heap_setCell_same w6 g7 10 _ _ (.slice (some ⟨ga, 0, none⟩) (j + 1) ca) hg6)
                        have hga7 : g7 + 1 ≤ ga := (k2.lt ga rfl).1
                        have hgn7 : g7 + 1 ≤ gn := (k3.lt gn rfl).1
                        have hBz : Below g7 Z ((w6.setCell ⟨g7, 10, none⟩ (.slice (some ⟨ga, 0, none⟩) (j + 1) ca)).setCell ⟨g7, 11, none⟩ (.slice (some ⟨gn, 0, none⟩) (us.length + nw.length) cn)) :=
                          ((hbel.trans (k1.mono (Nat.le_succ g7))).setCell (Nat.le_refl g7) _).setCell (Nat.le_refl g7) _
                        have hoz : ∀ q : Nat, q ≠ g7 → ((w6.setCell ⟨g7, 10, none⟩ (.slice (some ⟨ga, 0, none⟩) (j + 1) ca)).setCell ⟨g7, 11, none⟩ (.slice (some ⟨gn, 0, none⟩) (us.length + nw.length) cn)).heap[q]? = w6.heap[q]? := fun q hq =>
                          (Below.heap_setCell _ ⟨g7, 11, none⟩ _ _ hq).trans (Below.heap_setCell w6 ⟨g7, 10, none⟩ _ _ hq)
                        generalize ((w6.setCell ⟨g7, 10, none⟩ (.slice (some ⟨ga, 0, none⟩) (j + 1) ca)).setCell ⟨g7, 11, none⟩ (.slice (some ⟨gn, 0, none⟩) (us.length + nw.length) cn)) = z at *
                        have hAz := own_keepAt k2 (w' := z) (fun q hq => by cases hq; exact hoz ga (by omega))
                        have hNz := own_keepAt k3 (w' := z) (fun q hq => by cases hq; exact hoz gn (by omega))
                        have HAz := hide hAz
                        have HNz := hide hNz
                        have Hq2 := hide hq2
                        have HBz := hide hBz
                        clear hAz hNz hq2 hBz hoz k1 k2 k3 hg6
                        go_wp2
                        go_roundw
                        case rel =>
                          refine ⟨j + 1, gs ++ [Gt], us ++ nw, some ⟨ga, 0, none⟩, ca, some ⟨gn, 0, none⟩, cn, by omega, by go_num, Hnx, by simp [hgs], by rw [List.length_append]; omega, HBz.out, ?_, ?_, ?_, ?_⟩
                          · rw [List.length_append]
                            simpa using Hq2.out
                          · rw [natL_snoc]
                            exact HAz.out
                          · rw [List.length_append]
                            simpa using HNz.out
                          · intro q hq hq2
                            cases hq
                            cases hq2
                            exact k4 rfl
                        case measure => simp [intOf]; omega
                      exact AllReadyH.nil
                    exact AllReadyH.nil
                  exact AllReadyH.nil
                exact AllReadyH.nil
              exact AllReadyH.nil
            exact AllReadyH.nil
          refine held_cons (by rfl) (fun K hK => ?_) ?_
          · go_simp
            refine hK.out _ _ (by (try dsimp only); (first | with_reducible assumption | (refine HK _ ?_; first | exact Below.mono (by assumption) (Nat.le_succ g7) | exact Below.mono (hFa _ _ (by assumption)) (Nat.le_succ g7) | exact (Below.mono (by assumption) (Nat.le_succ g7)).setCell (Nat.le_refl _) _ | exact ((Below.mono (by assumption) (Nat.le_succ g7)).setCell (Nat.le_refl _) _).setCell (Nat.le_refl _) _))) (fun hHeld20 => ?_)
            clear hK K hHeld1
            try simp only [Act.put, List.setIfInBounds_toArray, List.set_cons_zero, List.set_cons_succ]
            refine wpAnyH_ready (rs := [9]) (by kernel_rfl) (by simp) ?_
            refine held_cons (by rfl) (fun K hK => ?_) ?_
            · go_simp
              refine hK.out _ _ (by (try dsimp only); (first | with_reducible assumption | (refine HK _ ?_; first | exact Below.mono (by assumption) (Nat.le_succ g7) | exact Below.mono (hFa _ _ (by assumption)) (Nat.le_succ g7) | exact (Below.mono (by assumption) (Nat.le_succ g7)).setCell (Nat.le_refl _) _ | exact ((Below.mono (by assumption) (Nat.le_succ g7)).setCell (Nat.le_refl _) _).setCell (Nat.le_refl _) _))) (fun hHeld21 => ?_)
              clear hK K hHeld20
              try simp only [Act.put, List.setIfInBounds_toArray, List.set_cons_zero, List.set_cons_succ]
              refine wpAnyH_ready (rs := [10]) (by kernel_rfl) (by simp) ?_
              refine held_cons (by rfl) (fun K hK => ?_) ?_
              · (first | (go_at_call 56; refine (HNew.out _ (hwF _ (by first | assumption | exact hFa _ _ (by assumption)))).mono ?_; rintro e w2 ⟨rfl, hC, hb2⟩; have hCs := call_size (g7 := g7) (Y := w') (by first | assumption | exact hFa _ _ (by assumption)) hb2; have hF2 : Below (g7 + 1) w' w2 := fr_call (by first | assumption | exact hFa _ _ (by assumption)) hb2 hg7w; obtain ⟨c10, c11, c12, c13⟩ := HL w2 hF2; (try (have hG2 : w2.ownsRow (g7 + 1) 36 1 (.slice G j cg) j (natL gs) := own_below (by first | assumption | exact World.ownsRow.alloc (by assumption) _) hb2)); (try (have hU2 : w2.ownsRow (g7 + 1) 36 1 (.slice U us.length cu) us.length (u64V us) := own_below (by first | assumption | exact World.ownsRow.alloc (by assumption) _) hb2)); (try (have eE : w2.heap[w'.heap.size]? = some (.cells #[.int .u64 Gt] 36 (0, 0)) := (hb2.block w'.heap.size (by simp)).trans hEE)); (try (have hA2 := own_below hA hb2))) | (refine step_append_lies _ rfl (.tmp 23) (.tmp 31) 39 rfl (g7 + 1) 36 i0 _ 1 8 und_u64s hi hz0 hz1 hz2 rfl (by decide) (.slice G j cg) j (natL gs) rfl (by first | assumption | exact World.ownsRow.alloc (by assumption) _) _ 1 1 [.int .u64 Gt] rfl rfl (by first | exact cell_one_new _ _ _ | exact one_cell (by assumption)) (by simp [Value.oneCell']) (by omega) (by unfold maxLen; omega) (by omega) (by first | (have hq := hF6.size; simp; omega) | (have hq := hF4.size; simp; omega) | (have hq := hF2.size; simp; omega) | (have hq := hF0.size; simp; omega) | (simp; omega)) _ rfl ?_; intro ga ca w4 hA hgA hliA hltA; have hAl := lie_low (b := w'.heap.size) hliA (by first | (have hq := hF6.size; simp; omega) | (have hq := hF2.size; simp; omega) | simp); have hAU := lie_ne (n := j + 1) (c := ca) hAl hGU (fun q hq => (hUq q hq).2); (try (have hne4 : ga ≠ gn := lie_apart hliA hNl (by first | exact hltN | (simp; omega)) hGU (fun q hq => (hGq q hq).2))); have hF4 : Below (g7 + 1) w' w4 := fr_grown (by first | assumption | exact hFa _ _ (by assumption)) hgA (fun q hq => (hGq q hq).1) hg7w; obtain ⟨d10, d11, d12, d13⟩ := HL w4 hF4; (try (have hU4 : w4.ownsRow (g7 + 1) 36 1 (.slice U us.length cu) us.length (u64V us) := kept_ne (by first | assumption | exact World.ownsRow.alloc (by assumption) _) hgA hUG)); (try (have hC4 := kept_ne hC hgA (fun q hq hq2 => by cases hq; have := (hGq _ hq2).2; omega))); (try (have hC4 := kept_ne (hC.alloc _) hgA (fun q hq hq2 => by cases hq; have := (hGq _ hq2).2; omega))); (try (have hN4 := kept_ne hN hgA hNG)); (try (have hN4 := kept_ne (hN.alloc _) hgA hNG))) | (refine step_append_lies _ rfl (.tmp 34) (.tmp 37) 39 rfl (g7 + 1) 36 i0 _ 1 8 und_u64s hi hz0 hz1 hz2 rfl (by decide) (.slice U us.length cu) us.length (u64V us) rfl (by first | assumption | exact World.ownsRow.alloc (by assumption) _) _ nw.length _ (u64V nw) rfl (by simp) (own_cells (by first | assumption | exact World.ownsRow.alloc (by assumption) _)) (by simp [Value.oneCell']) hnw1 (by unfold maxLen; omega) (by omega) (by first | (have hq := hF6.size; simp; omega) | (have hq := hF4.size; simp; omega) | (have hq := hF2.size; simp; omega) | (have hq := hF0.size; simp; omega) | (simp; omega)) _ rfl ?_; intro gn cn w6 hN hgN hliN hltN; have hNl := lie_low (b := w'.heap.size) hliN (by first | (have hq := hF4.size; simp; omega) | (have hq := hF2.size; simp; omega)); have hNG := lie_ne (n := us.length + nw.length) (c := cn) hNl hUG (fun q hq => (hGq q hq).2); (try (have hA6 := kept_ne hA hgN hAU)); (try (have hA6 := kept_ne hA2 hgN hAU)); (try (have hne6 : ga ≠ gn := Ne.symm (lie_apart hliN hAl (by first | exact hltA | exact Nat.lt_of_lt_of_le hltA hb2.size | (simp; omega)) hUG (fun q hq => (hUq q hq).2)))); have hF6 : Below (g7 + 1) w' w6 := fr_grown (by first | assumption | exact hFa _ _ (by assumption)) hgN (fun q hq => (hUq q hq).1) hg7w; obtain ⟨f10, f11, f12, f13⟩ := HL w6 hF6; (try (have hG6 : w6.ownsRow (g7 + 1) 36 1 (.slice G j cg) j (natL gs) := kept_ne (by first | assumption | exact World.ownsRow.alloc (by assumption) _) hgN hGU)); (try (have eE6 : w6.heap[w'.heap.size]? = some (.cells #[.int .u64 Gt] 36 (0, 0)) := cell_kept eE hgN (fun e => by have := (hUq _ e).2; omega))); (try (have eE6 := cell_kept (heap_alloc_new w2 (.cells #[.int .u64 Gt] 36)) hgN (fun e => by have := (hUq _ e).2; have := hF2.size; omega)))))
                refine hK.out _ _ (by (try dsimp only); (first | with_reducible assumption | (refine HK _ ?_; first | exact Below.mono (by assumption) (Nat.le_succ g7) | exact Below.mono (hFa _ _ (by assumption)) (Nat.le_succ g7) | exact (Below.mono (by assumption) (Nat.le_succ g7)).setCell (Nat.le_refl _) _ | exact ((Below.mono (by assumption) (Nat.le_succ g7)).setCell (Nat.le_refl _) _).setCell (Nat.le_refl _) _))) (fun hHeld22 => ?_)
                clear hK K hHeld21
                try simp only [Act.put, List.setIfInBounds_toArray, List.set_cons_zero, List.set_cons_succ]
                refine held_take (i := 17) (v := ?_) (by rfl) (by kernel_rfl) (by kernel_rfl) (by kernel_rfl) (fun _ _ _ h => h) (Or.inl ⟨by rfl, ?_⟩) hHeld22 ?_
                rotate_left
                · (intro w hSw; (try dsimp only at hSw); go_simp; try with_reducible rfl)
                try simp only [Act.put, List.setIfInBounds_toArray, List.set_cons_zero, List.set_cons_succ]
                refine wpAnyH_ready (rs := [15]) (by kernel_rfl) (by simp) ?_
                refine held_cons (by rfl) (fun K hK => ?_) ?_
                · go_simp
                  (first | (go_at_call 56; refine (HNew.out _ (hwF _ (by first | assumption | exact hFa _ _ (by assumption)))).mono ?_; rintro e w2 ⟨rfl, hC, hb2⟩; have hCs := call_size (g7 := g7) (Y := w') (by first | assumption | exact hFa _ _ (by assumption)) hb2; have hF2 : Below (g7 + 1) w' w2 := fr_call (by first | assumption | exact hFa _ _ (by assumption)) hb2 hg7w; obtain ⟨c10, c11, c12, c13⟩ := HL w2 hF2; (try (have hG2 : w2.ownsRow (g7 + 1) 36 1 (.slice G j cg) j (natL gs) := own_below (by first | assumption | exact World.ownsRow.alloc (by assumption) _) hb2)); (try (have hU2 : w2.ownsRow (g7 + 1) 36 1 (.slice U us.length cu) us.length (u64V us) := own_below (by first | assumption | exact World.ownsRow.alloc (by assumption) _) hb2)); (try (have eE : w2.heap[w'.heap.size]? = some (.cells #[.int .u64 Gt] 36 (0, 0)) := (hb2.block w'.heap.size (by simp)).trans hEE)); (try (have hA2 := own_below hA hb2))) | (refine step_append_lies _ rfl (.tmp 23) (.tmp 31) 39 rfl (g7 + 1) 36 i0 _ 1 8 und_u64s hi hz0 hz1 hz2 rfl (by decide) (.slice G j cg) j (natL gs) rfl (by first | assumption | exact World.ownsRow.alloc (by assumption) _) _ 1 1 [.int .u64 Gt] rfl rfl (by first | exact cell_one_new _ _ _ | exact one_cell (by assumption)) (by simp [Value.oneCell']) (by omega) (by unfold maxLen; omega) (by omega) (by first | (have hq := hF6.size; simp; omega) | (have hq := hF4.size; simp; omega) | (have hq := hF2.size; simp; omega) | (have hq := hF0.size; simp; omega) | (simp; omega)) _ rfl ?_; intro ga ca w4 hA hgA hliA hltA; have hAl := lie_low (b := w'.heap.size) hliA (by first | (have hq := hF6.size; simp; omega) | (have hq := hF2.size; simp; omega) | simp); have hAU := lie_ne (n := j + 1) (c := ca) hAl hGU (fun q hq => (hUq q hq).2); (try (have hne4 : ga ≠ gn := lie_apart hliA hNl (by first | exact hltN | (simp; omega)) hGU (fun q hq => (hGq q hq).2))); have hF4 : Below (g7 + 1) w' w4 := fr_grown (by first | assumption | exact hFa _ _ (by assumption)) hgA (fun q hq => (hGq q hq).1) hg7w; obtain ⟨d10, d11, d12, d13⟩ := HL w4 hF4; (try (have hU4 : w4.ownsRow (g7 + 1) 36 1 (.slice U us.length cu) us.length (u64V us) := kept_ne (by first | assumption | exact World.ownsRow.alloc (by assumption) _) hgA hUG)); (try (have hC4 := kept_ne hC hgA (fun q hq hq2 => by cases hq; have := (hGq _ hq2).2; omega))); (try (have hC4 := kept_ne (hC.alloc _) hgA (fun q hq hq2 => by cases hq; have := (hGq _ hq2).2; omega))); (try (have hN4 := kept_ne hN hgA hNG)); (try (have hN4 := kept_ne (hN.alloc _) hgA hNG))) | (refine step_append_lies _ rfl (.tmp 34) (.tmp 37) 39 rfl (g7 + 1) 36 i0 _ 1 8 und_u64s hi hz0 hz1 hz2 rfl (by decide) (.slice U us.length cu) us.length (u64V us) rfl (by first | assumption | exact World.ownsRow.alloc (by assumption) _) _ nw.length _ (u64V nw) rfl (by simp) (own_cells (by first | assumption | exact World.ownsRow.alloc (by assumption) _)) (by simp [Value.oneCell']) hnw1 (by unfold maxLen; omega) (by omega) (by first | (have hq := hF6.size; simp; omega) | (have hq := hF4.size; simp; omega) | (have hq := hF2.size; simp; omega) | (have hq := hF0.size; simp; omega) | (simp; omega)) _ rfl ?_; intro gn cn w6 hN hgN hliN hltN; have hNl := lie_low (b := w'.heap.size) hliN (by first | (have hq := hF4.size; simp; omega) | (have hq := hF2.size; simp; omega)); have hNG := lie_ne (n := us.length + nw.length) (c := cn) hNl hUG (fun q hq => (hGq q hq).2); (try (have hA6 := kept_ne hA hgN hAU)); (try (have hA6 := kept_ne hA2 hgN hAU)); (try (have hne6 : ga ≠ gn := Ne.symm (lie_apart hliN hAl (by first | exact hltA | exact Nat.lt_of_lt_of_le hltA hb2.size | (simp; omega)) hUG (fun q hq => (hUq q hq).2)))); have hF6 : Below (g7 + 1) w' w6 := fr_grown (by first | assumption | exact hFa _ _ (by assumption)) hgN (fun q hq => (hUq q hq).1) hg7w; obtain ⟨f10, f11, f12, f13⟩ := HL w6 hF6; (try (have hG6 : w6.ownsRow (g7 + 1) 36 1 (.slice G j cg) j (natL gs) := kept_ne (by first | assumption | exact World.ownsRow.alloc (by assumption) _) hgN hGU)); (try (have eE6 : w6.heap[w'.heap.size]? = some (.cells #[.int .u64 Gt] 36 (0, 0)) := cell_kept eE hgN (fun e => by have := (hUq _ e).2; omega))); (try (have eE6 := cell_kept (heap_alloc_new w2 (.cells #[.int .u64 Gt] 36)) hgN (fun e => by have := (hUq _ e).2; have := hF2.size; omega)))))
                  go_wp2_with fail
                  refine hK.out _ _ (by (try dsimp only); (first | with_reducible assumption | (refine HK _ ?_; first | exact Below.mono (by assumption) (Nat.le_succ g7) | exact Below.mono (hFa _ _ (by assumption)) (Nat.le_succ g7) | exact (Below.mono (by assumption) (Nat.le_succ g7)).setCell (Nat.le_refl _) _ | exact ((Below.mono (by assumption) (Nat.le_succ g7)).setCell (Nat.le_refl _) _).setCell (Nat.le_refl _) _))) (fun hHeld23 => ?_)
                  clear hK K hHeld22
                  try simp only [Act.put, List.setIfInBounds_toArray, List.set_cons_zero, List.set_cons_succ]
                  refine wpAnyH_ready (rs := [16]) (by kernel_rfl) (by simp) ?_
                  refine held_cons (by rfl) (fun K hK => ?_) ?_
                  · (first | (go_at_call 56; refine (HNew.out _ (hwF _ (by first | assumption | exact hFa _ _ (by assumption)))).mono ?_; rintro e w2 ⟨rfl, hC, hb2⟩; have hCs := call_size (g7 := g7) (Y := w') (by first | assumption | exact hFa _ _ (by assumption)) hb2; have hF2 : Below (g7 + 1) w' w2 := fr_call (by first | assumption | exact hFa _ _ (by assumption)) hb2 hg7w; obtain ⟨c10, c11, c12, c13⟩ := HL w2 hF2; (try (have hG2 : w2.ownsRow (g7 + 1) 36 1 (.slice G j cg) j (natL gs) := own_below (by first | assumption | exact World.ownsRow.alloc (by assumption) _) hb2)); (try (have hU2 : w2.ownsRow (g7 + 1) 36 1 (.slice U us.length cu) us.length (u64V us) := own_below (by first | assumption | exact World.ownsRow.alloc (by assumption) _) hb2)); (try (have eE : w2.heap[w'.heap.size]? = some (.cells #[.int .u64 Gt] 36 (0, 0)) := (hb2.block w'.heap.size (by simp)).trans hEE)); (try (have hA2 := own_below hA hb2))) | (refine step_append_lies _ rfl (.tmp 23) (.tmp 31) 39 rfl (g7 + 1) 36 i0 _ 1 8 und_u64s hi hz0 hz1 hz2 rfl (by decide) (.slice G j cg) j (natL gs) rfl (by first | assumption | exact World.ownsRow.alloc (by assumption) _) _ 1 1 [.int .u64 Gt] rfl rfl (by first | exact cell_one_new _ _ _ | exact one_cell (by assumption)) (by simp [Value.oneCell']) (by omega) (by unfold maxLen; omega) (by omega) (by first | (have hq := hF6.size; simp; omega) | (have hq := hF4.size; simp; omega) | (have hq := hF2.size; simp; omega) | (have hq := hF0.size; simp; omega) | (simp; omega)) _ rfl ?_; intro ga ca w4 hA hgA hliA hltA; have hAl := lie_low (b := w'.heap.size) hliA (by first | (have hq := hF6.size; simp; omega) | (have hq := hF2.size; simp; omega) | simp); have hAU := lie_ne (n := j + 1) (c := ca) hAl hGU (fun q hq => (hUq q hq).2); (try (have hne4 : ga ≠ gn := lie_apart hliA hNl (by first | exact hltN | (simp; omega)) hGU (fun q hq => (hGq q hq).2))); have hF4 : Below (g7 + 1) w' w4 := fr_grown (by first | assumption | exact hFa _ _ (by assumption)) hgA (fun q hq => (hGq q hq).1) hg7w; obtain ⟨d10, d11, d12, d13⟩ := HL w4 hF4; (try (have hU4 : w4.ownsRow (g7 + 1) 36 1 (.slice U us.length cu) us.length (u64V us) := kept_ne (by first | assumption | exact World.ownsRow.alloc (by assumption) _) hgA hUG)); (try (have hC4 := kept_ne hC hgA (fun q hq hq2 => by cases hq; have := (hGq _ hq2).2; omega))); (try (have hC4 := kept_ne (hC.alloc _) hgA (fun q hq hq2 => by cases hq; have := (hGq _ hq2).2; omega))); (try (have hN4 := kept_ne hN hgA hNG)); (try (have hN4 := kept_ne (hN.alloc _) hgA hNG))) | (refine step_append_lies _ rfl (.tmp 34) (.tmp 37) 39 rfl (g7 + 1) 36 i0 _ 1 8 und_u64s hi hz0 hz1 hz2 rfl (by decide) (.slice U us.length cu) us.length (u64V us) rfl (by first | assumption | exact World.ownsRow.alloc (by assumption) _) _ nw.length _ (u64V nw) rfl (by simp) (own_cells (by first | assumption | exact World.ownsRow.alloc (by assumption) _)) (by simp [Value.oneCell']) hnw1 (by unfold maxLen; omega) (by omega) (by first | (have hq := hF6.size; simp; omega) | (have hq := hF4.size; simp; omega) | (have hq := hF2.size; simp; omega) | (have hq := hF0.size; simp; omega) | (simp; omega)) _ rfl ?_; intro gn cn w6 hN hgN hliN hltN; have hNl := lie_low (b := w'.heap.size) hliN (by first | (have hq := hF4.size; simp; omega) | (have hq := hF2.size; simp; omega)); have hNG := lie_ne (n := us.length + nw.length) (c := cn) hNl hUG (fun q hq => (hGq q hq).2); (try (have hA6 := kept_ne hA hgN hAU)); (try (have hA6 := kept_ne hA2 hgN hAU)); (try (have hne6 : ga ≠ gn := Ne.symm (lie_apart hliN hAl (by first | exact hltA | exact Nat.lt_of_lt_of_le hltA hb2.size | (simp; omega)) hUG (fun q hq => (hUq q hq).2)))); have hF6 : Below (g7 + 1) w' w6 := fr_grown (by first | assumption | exact hFa _ _ (by assumption)) hgN (fun q hq => (hUq q hq).1) hg7w; obtain ⟨f10, f11, f12, f13⟩ := HL w6 hF6; (try (have hG6 : w6.ownsRow (g7 + 1) 36 1 (.slice G j cg) j (natL gs) := kept_ne (by first | assumption | exact World.ownsRow.alloc (by assumption) _) hgN hGU)); (try (have eE6 : w6.heap[w'.heap.size]? = some (.cells #[.int .u64 Gt] 36 (0, 0)) := cell_kept eE hgN (fun e => by have := (hUq _ e).2; omega))); (try (have eE6 := cell_kept (heap_alloc_new w2 (.cells #[.int .u64 Gt] 36)) hgN (fun e => by have := (hUq _ e).2; have := hF2.size; omega)))))
                    refine hK.out _ _ (by (try dsimp only); (first | with_reducible assumption | (refine HK _ ?_; first | exact Below.mono (by assumption) (Nat.le_succ g7) | exact Below.mono (hFa _ _ (by assumption)) (Nat.le_succ g7) | exact (Below.mono (by assumption) (Nat.le_succ g7)).setCell (Nat.le_refl _) _ | exact ((Below.mono (by assumption) (Nat.le_succ g7)).setCell (Nat.le_refl _) _).setCell (Nat.le_refl _) _))) (fun hHeld24 => ?_)
                    clear hK K hHeld23
                    try simp only [Act.put, List.setIfInBounds_toArray, List.set_cons_zero, List.set_cons_succ]
                    refine wpAnyH_ready (rs := [18]) (by kernel_rfl) (by simp) ?_
                    refine held_cons (by rfl) (fun K hK => ?_) ?_
                    · go_simp
                      refine hK.out _ _ (by (try dsimp only); (first | with_reducible assumption | (refine HK _ ?_; first | exact Below.mono (by assumption) (Nat.le_succ g7) | exact Below.mono (hFa _ _ (by assumption)) (Nat.le_succ g7) | exact (Below.mono (by assumption) (Nat.le_succ g7)).setCell (Nat.le_refl _) _ | exact ((Below.mono (by assumption) (Nat.le_succ g7)).setCell (Nat.le_refl _) _).setCell (Nat.le_refl _) _))) (fun hHeld25 => ?_)
                      clear hK K hHeld24
                      try simp only [Act.put, List.setIfInBounds_toArray, List.set_cons_zero, List.set_cons_succ]
                      refine held_take (i := 19) (v := ?_) (by rfl) (by kernel_rfl) (by kernel_rfl) (by kernel_rfl) (fun _ _ _ h => h) (Or.inl ⟨by rfl, ?_⟩) hHeld25 ?_
                      rotate_left
                      · (intro w hSw; (try dsimp only at hSw); go_simp; try with_reducible rfl)
                      try simp only [Act.put, List.setIfInBounds_toArray, List.set_cons_zero, List.set_cons_succ]
                      refine wpAnyH_ready (rs := [20]) (by kernel_rfl) (by simp) ?_
                      refine held_cons (by rfl) (fun K hK => ?_) ?_
                      · go_simp
                        refine hK.out _ _ (by (try dsimp only); (first | with_reducible assumption | (refine HK _ ?_; first | exact Below.mono (by assumption) (Nat.le_succ g7) | exact Below.mono (hFa _ _ (by assumption)) (Nat.le_succ g7) | exact (Below.mono (by assumption) (Nat.le_succ g7)).setCell (Nat.le_refl _) _ | exact ((Below.mono (by assumption) (Nat.le_succ g7)).setCell (Nat.le_refl _) _).setCell (Nat.le_refl _) _))) (fun hHeld26 => ?_)
                        clear hK K hHeld25
                        try simp only [Act.put, List.setIfInBounds_toArray, List.set_cons_zero, List.set_cons_succ]
                        refine wpAnyH_done (by kernel_rfl) ?_ _
                        refine NoPanic.normal ?_
                        clear hHeld26
                        have hgoal : Below (g7 + 1) w' w6 ∧ w6.ownsRow (g7 + 1) 36 1 (.slice (some ⟨ga, 0, none⟩) (j + 1) ca) (j + 1) (natL gs ++ [.int .u64 Gt]) ∧ w6.ownsRow (g7 + 1) 36 1 (.slice (some ⟨gn, 0, none⟩) (us.length + nw.length) cn) (us.length + nw.length) (u64V us ++ u64V nw) ∧ ga ≠ gn := ⟨hF6, by assumption, by assumption, by assumption⟩
                        obtain ⟨k1, k2, k3, k4⟩ := hgoal
                        have hg6 : w6.heap[g7]? = some (.cells #[.int .i64 0, .int .i64 0, .int .u64 0, .int .i64 0, .int .u64 0, .int .i64 0, .int .i64 0, .bool false, .int .i64 0, .int .u64 0, .slice G j cg, .slice U us.length cu] 41) := (k1.block _ (Nat.lt_succ_self _)).trans hT7
                        have hq2 := heap_setCell_same _ g7 11 _ _ (.slice (some ⟨gn, 0, none⟩) (us.length + nw.length) cn) (heap_setCell_same w6 g7 10 _ _ (.slice (some ⟨ga, 0, none⟩) (j + 1) ca) hg6)
                        have hga7 : g7 + 1 ≤ ga := (k2.lt ga rfl).1
                        have hgn7 : g7 + 1 ≤ gn := (k3.lt gn rfl).1
                        have hBz : Below g7 Z ((w6.setCell ⟨g7, 10, none⟩ (.slice (some ⟨ga, 0, none⟩) (j + 1) ca)).setCell ⟨g7, 11, none⟩ (.slice (some ⟨gn, 0, none⟩) (us.length + nw.length) cn)) :=
                          ((hbel.trans (k1.mono (Nat.le_succ g7))).setCell (Nat.le_refl g7) _).setCell (Nat.le_refl g7) _
                        have hoz : ∀ q : Nat, q ≠ g7 → ((w6.setCell ⟨g7, 10, none⟩ (.slice (some ⟨ga, 0, none⟩) (j + 1) ca)).setCell ⟨g7, 11, none⟩ (.slice (some ⟨gn, 0, none⟩) (us.length + nw.length) cn)).heap[q]? = w6.heap[q]? := fun q hq =>
                          (Below.heap_setCell _ ⟨g7, 11, none⟩ _ _ hq).trans (Below.heap_setCell w6 ⟨g7, 10, none⟩ _ _ hq)
                        generalize ((w6.setCell ⟨g7, 10, none⟩ (.slice (some ⟨ga, 0, none⟩) (j + 1) ca)).setCell ⟨g7, 11, none⟩ (.slice (some ⟨gn, 0, none⟩) (us.length + nw.length) cn)) = z at *
                        have hAz := own_keepAt k2 (w' := z) (fun q hq => by cases hq; exact hoz ga (by omega))
                        have hNz := own_keepAt k3 (w' := z) (fun q hq => by cases hq; exact hoz gn (by omega))
                        have HAz := hide hAz
                        have HNz := hide hNz
                        have Hq2 := hide hq2
                        have HBz := hide hBz
                        clear hAz hNz hq2 hBz hoz k1 k2 k3 hg6
                        go_wp2
                        go_roundw
                        case rel =>
                          refine ⟨j + 1, gs ++ [Gt], us ++ nw, some ⟨ga, 0, none⟩, ca, some ⟨gn, 0, none⟩, cn, by omega, by go_num, Hnx, by simp [hgs], by rw [List.length_append]; omega, HBz.out, ?_, ?_, ?_, ?_⟩
                          · rw [List.length_append]
                            simpa using Hq2.out
                          · rw [natL_snoc]
                            exact HAz.out
                          · rw [List.length_append]
                            simpa using HNz.out
                          · intro q hq hq2
                            cases hq
                            cases hq2
                            exact k4 rfl
                        case measure => simp [intOf]; omega
                      exact AllReadyH.nil
                    exact AllReadyH.nil
                  exact AllReadyH.nil
                exact AllReadyH.nil
              exact AllReadyH.nil
            exact AllReadyH.nil
          exact AllReadyH.nil
        refine held_cons (by rfl) (fun K hK => ?_) ?_
        · go_simp
          refine hK.out _ _ (by (try dsimp only); (first | with_reducible assumption | (refine HK _ ?_; first | exact Below.mono (by assumption) (Nat.le_succ g7) | exact Below.mono (hFa _ _ (by assumption)) (Nat.le_succ g7) | exact (Below.mono (by assumption) (Nat.le_succ g7)).setCell (Nat.le_refl _) _ | exact ((Below.mono (by assumption) (Nat.le_succ g7)).setCell (Nat.le_refl _) _).setCell (Nat.le_refl _) _))) (fun hHeld27 => ?_)
          clear hK K hHeld0
          try simp only [Act.put, List.setIfInBounds_toArray, List.set_cons_zero, List.set_cons_succ]
          refine wpAnyH_ready (rs := [1, 12]) (by kernel_rfl) (by simp) ?_
          refine held_cons (by rfl) (fun K hK => ?_) ?_
          · go_simp
            refine hK.out _ _ (by (try dsimp only); (first | with_reducible assumption | (refine HK _ ?_; first | exact Below.mono (by assumption) (Nat.le_succ g7) | exact Below.mono (hFa _ _ (by assumption)) (Nat.le_succ g7) | exact (Below.mono (by assumption) (Nat.le_succ g7)).setCell (Nat.le_refl _) _ | exact ((Below.mono (by assumption) (Nat.le_succ g7)).setCell (Nat.le_refl _) _).setCell (Nat.le_refl _) _))) (fun hHeld28 => ?_)
            clear hK K hHeld27
            try simp only [Act.put, List.setIfInBounds_toArray, List.set_cons_zero, List.set_cons_succ]
            refine wpAnyH_ready (rs := [10, 12]) (by kernel_rfl) (by simp) ?_
            refine held_cons (by rfl) (fun K hK => ?_) ?_
            · (first | (go_at_call 56; refine (HNew.out _ (hwF _ (by first | assumption | exact hFa _ _ (by assumption)))).mono ?_; rintro e w2 ⟨rfl, hC, hb2⟩; have hCs := call_size (g7 := g7) (Y := w') (by first | assumption | exact hFa _ _ (by assumption)) hb2; have hF2 : Below (g7 + 1) w' w2 := fr_call (by first | assumption | exact hFa _ _ (by assumption)) hb2 hg7w; obtain ⟨c10, c11, c12, c13⟩ := HL w2 hF2; (try (have hG2 : w2.ownsRow (g7 + 1) 36 1 (.slice G j cg) j (natL gs) := own_below (by first | assumption | exact World.ownsRow.alloc (by assumption) _) hb2)); (try (have hU2 : w2.ownsRow (g7 + 1) 36 1 (.slice U us.length cu) us.length (u64V us) := own_below (by first | assumption | exact World.ownsRow.alloc (by assumption) _) hb2)); (try (have eE : w2.heap[w'.heap.size]? = some (.cells #[.int .u64 Gt] 36 (0, 0)) := (hb2.block w'.heap.size (by simp)).trans hEE)); (try (have hA2 := own_below hA hb2))) | (refine step_append_lies _ rfl (.tmp 23) (.tmp 31) 39 rfl (g7 + 1) 36 i0 _ 1 8 und_u64s hi hz0 hz1 hz2 rfl (by decide) (.slice G j cg) j (natL gs) rfl (by first | assumption | exact World.ownsRow.alloc (by assumption) _) _ 1 1 [.int .u64 Gt] rfl rfl (by first | exact cell_one_new _ _ _ | exact one_cell (by assumption)) (by simp [Value.oneCell']) (by omega) (by unfold maxLen; omega) (by omega) (by first | (have hq := hF6.size; simp; omega) | (have hq := hF4.size; simp; omega) | (have hq := hF2.size; simp; omega) | (have hq := hF0.size; simp; omega) | (simp; omega)) _ rfl ?_; intro ga ca w4 hA hgA hliA hltA; have hAl := lie_low (b := w'.heap.size) hliA (by first | (have hq := hF6.size; simp; omega) | (have hq := hF2.size; simp; omega) | simp); have hAU := lie_ne (n := j + 1) (c := ca) hAl hGU (fun q hq => (hUq q hq).2); (try (have hne4 : ga ≠ gn := lie_apart hliA hNl (by first | exact hltN | (simp; omega)) hGU (fun q hq => (hGq q hq).2))); have hF4 : Below (g7 + 1) w' w4 := fr_grown (by first | assumption | exact hFa _ _ (by assumption)) hgA (fun q hq => (hGq q hq).1) hg7w; obtain ⟨d10, d11, d12, d13⟩ := HL w4 hF4; (try (have hU4 : w4.ownsRow (g7 + 1) 36 1 (.slice U us.length cu) us.length (u64V us) := kept_ne (by first | assumption | exact World.ownsRow.alloc (by assumption) _) hgA hUG)); (try (have hC4 := kept_ne hC hgA (fun q hq hq2 => by cases hq; have := (hGq _ hq2).2; omega))); (try (have hC4 := kept_ne (hC.alloc _) hgA (fun q hq hq2 => by cases hq; have := (hGq _ hq2).2; omega))); (try (have hN4 := kept_ne hN hgA hNG)); (try (have hN4 := kept_ne (hN.alloc _) hgA hNG))) | (refine step_append_lies _ rfl (.tmp 34) (.tmp 37) 39 rfl (g7 + 1) 36 i0 _ 1 8 und_u64s hi hz0 hz1 hz2 rfl (by decide) (.slice U us.length cu) us.length (u64V us) rfl (by first | assumption | exact World.ownsRow.alloc (by assumption) _) _ nw.length _ (u64V nw) rfl (by simp) (own_cells (by first | assumption | exact World.ownsRow.alloc (by assumption) _)) (by simp [Value.oneCell']) hnw1 (by unfold maxLen; omega) (by omega) (by first | (have hq := hF6.size; simp; omega) | (have hq := hF4.size; simp; omega) | (have hq := hF2.size; simp; omega) | (have hq := hF0.size; simp; omega) | (simp; omega)) _ rfl ?_; intro gn cn w6 hN hgN hliN hltN; have hNl := lie_low (b := w'.heap.size) hliN (by first | (have hq := hF4.size; simp; omega) | (have hq := hF2.size; simp; omega)); have hNG := lie_ne (n := us.length + nw.length) (c := cn) hNl hUG (fun q hq => (hGq q hq).2); (try (have hA6 := kept_ne hA hgN hAU)); (try (have hA6 := kept_ne hA2 hgN hAU)); (try (have hne6 : ga ≠ gn := Ne.symm (lie_apart hliN hAl (by first | exact hltA | exact Nat.lt_of_lt_of_le hltA hb2.size | (simp; omega)) hUG (fun q hq => (hUq q hq).2)))); have hF6 : Below (g7 + 1) w' w6 := fr_grown (by first | assumption | exact hFa _ _ (by assumption)) hgN (fun q hq => (hUq q hq).1) hg7w; obtain ⟨f10, f11, f12, f13⟩ := HL w6 hF6; (try (have hG6 : w6.ownsRow (g7 + 1) 36 1 (.slice G j cg) j (natL gs) := kept_ne (by first | assumption | exact World.ownsRow.alloc (by assumption) _) hgN hGU)); (try (have eE6 : w6.heap[w'.heap.size]? = some (.cells #[.int .u64 Gt] 36 (0, 0)) := cell_kept eE hgN (fun e => by have := (hUq _ e).2; omega))); (try (have eE6 := cell_kept (heap_alloc_new w2 (.cells #[.int .u64 Gt] 36)) hgN (fun e => by have := (hUq _ e).2; have := hF2.size; omega)))))
              refine hK.out _ _ (by (try dsimp only); (first | with_reducible assumption | (refine HK _ ?_; first | exact Below.mono (by assumption) (Nat.le_succ g7) | exact Below.mono (hFa _ _ (by assumption)) (Nat.le_succ g7) | exact (Below.mono (by assumption) (Nat.le_succ g7)).setCell (Nat.le_refl _) _ | exact ((Below.mono (by assumption) (Nat.le_succ g7)).setCell (Nat.le_refl _) _).setCell (Nat.le_refl _) _))) (fun hHeld29 => ?_)
              clear hK K hHeld28
              try simp only [Act.put, List.setIfInBounds_toArray, List.set_cons_zero, List.set_cons_succ]
              refine wpAnyH_ready (rs := [12, 15]) (by kernel_rfl) (by simp) ?_
              refine held_cons (by rfl) (fun K hK => ?_) ?_
              · go_simp
                refine hK.out _ _ (by (try dsimp only); (first | with_reducible assumption | (refine HK _ ?_; first | exact Below.mono (by assumption) (Nat.le_succ g7) | exact Below.mono (hFa _ _ (by assumption)) (Nat.le_succ g7) | exact (Below.mono (by assumption) (Nat.le_succ g7)).setCell (Nat.le_refl _) _ | exact ((Below.mono (by assumption) (Nat.le_succ g7)).setCell (Nat.le_refl _) _).setCell (Nat.le_refl _) _))) (fun hHeld30 => ?_)
                clear hK K hHeld29
                try simp only [Act.put, List.setIfInBounds_toArray, List.set_cons_zero, List.set_cons_succ]
                refine held_take (i := 17) (v := ?_) (by rfl) (by kernel_rfl) (by kernel_rfl) (by kernel_rfl) (fun _ _ _ h => h) (Or.inl ⟨by rfl, ?_⟩) hHeld30 ?_
                rotate_left
                · (intro w hSw; (try dsimp only at hSw); go_simp; try with_reducible rfl)
                try simp only [Act.put, List.setIfInBounds_toArray, List.set_cons_zero, List.set_cons_succ]
                refine wpAnyH_ready (rs := [15]) (by kernel_rfl) (by simp) ?_
                refine held_cons (by rfl) (fun K hK => ?_) ?_
                · go_simp
                  (first | (go_at_call 56; refine (HNew.out _ (hwF _ (by first | assumption | exact hFa _ _ (by assumption)))).mono ?_; rintro e w2 ⟨rfl, hC, hb2⟩; have hCs := call_size (g7 := g7) (Y := w') (by first | assumption | exact hFa _ _ (by assumption)) hb2; have hF2 : Below (g7 + 1) w' w2 := fr_call (by first | assumption | exact hFa _ _ (by assumption)) hb2 hg7w; obtain ⟨c10, c11, c12, c13⟩ := HL w2 hF2; (try (have hG2 : w2.ownsRow (g7 + 1) 36 1 (.slice G j cg) j (natL gs) := own_below (by first | assumption | exact World.ownsRow.alloc (by assumption) _) hb2)); (try (have hU2 : w2.ownsRow (g7 + 1) 36 1 (.slice U us.length cu) us.length (u64V us) := own_below (by first | assumption | exact World.ownsRow.alloc (by assumption) _) hb2)); (try (have eE : w2.heap[w'.heap.size]? = some (.cells #[.int .u64 Gt] 36 (0, 0)) := (hb2.block w'.heap.size (by simp)).trans hEE)); (try (have hA2 := own_below hA hb2))) | (refine step_append_lies _ rfl (.tmp 23) (.tmp 31) 39 rfl (g7 + 1) 36 i0 _ 1 8 und_u64s hi hz0 hz1 hz2 rfl (by decide) (.slice G j cg) j (natL gs) rfl (by first | assumption | exact World.ownsRow.alloc (by assumption) _) _ 1 1 [.int .u64 Gt] rfl rfl (by first | exact cell_one_new _ _ _ | exact one_cell (by assumption)) (by simp [Value.oneCell']) (by omega) (by unfold maxLen; omega) (by omega) (by first | (have hq := hF6.size; simp; omega) | (have hq := hF4.size; simp; omega) | (have hq := hF2.size; simp; omega) | (have hq := hF0.size; simp; omega) | (simp; omega)) _ rfl ?_; intro ga ca w4 hA hgA hliA hltA; have hAl := lie_low (b := w'.heap.size) hliA (by first | (have hq := hF6.size; simp; omega) | (have hq := hF2.size; simp; omega) | simp); have hAU := lie_ne (n := j + 1) (c := ca) hAl hGU (fun q hq => (hUq q hq).2); (try (have hne4 : ga ≠ gn := lie_apart hliA hNl (by first | exact hltN | (simp; omega)) hGU (fun q hq => (hGq q hq).2))); have hF4 : Below (g7 + 1) w' w4 := fr_grown (by first | assumption | exact hFa _ _ (by assumption)) hgA (fun q hq => (hGq q hq).1) hg7w; obtain ⟨d10, d11, d12, d13⟩ := HL w4 hF4; (try (have hU4 : w4.ownsRow (g7 + 1) 36 1 (.slice U us.length cu) us.length (u64V us) := kept_ne (by first | assumption | exact World.ownsRow.alloc (by assumption) _) hgA hUG)); (try (have hC4 := kept_ne hC hgA (fun q hq hq2 => by cases hq; have := (hGq _ hq2).2; omega))); (try (have hC4 := kept_ne (hC.alloc _) hgA (fun q hq hq2 => by cases hq; have := (hGq _ hq2).2; omega))); (try (have hN4 := kept_ne hN hgA hNG)); (try (have hN4 := kept_ne (hN.alloc _) hgA hNG))) | (refine step_append_lies _ rfl (.tmp 34) (.tmp 37) 39 rfl (g7 + 1) 36 i0 _ 1 8 und_u64s hi hz0 hz1 hz2 rfl (by decide) (.slice U us.length cu) us.length (u64V us) rfl (by first | assumption | exact World.ownsRow.alloc (by assumption) _) _ nw.length _ (u64V nw) rfl (by simp) (own_cells (by first | assumption | exact World.ownsRow.alloc (by assumption) _)) (by simp [Value.oneCell']) hnw1 (by unfold maxLen; omega) (by omega) (by first | (have hq := hF6.size; simp; omega) | (have hq := hF4.size; simp; omega) | (have hq := hF2.size; simp; omega) | (have hq := hF0.size; simp; omega) | (simp; omega)) _ rfl ?_; intro gn cn w6 hN hgN hliN hltN; have hNl := lie_low (b := w'.heap.size) hliN (by first | (have hq := hF4.size; simp; omega) | (have hq := hF2.size; simp; omega)); have hNG := lie_ne (n := us.length + nw.length) (c := cn) hNl hUG (fun q hq => (hGq q hq).2); (try (have hA6 := kept_ne hA hgN hAU)); (try (have hA6 := kept_ne hA2 hgN hAU)); (try (have hne6 : ga ≠ gn := Ne.symm (lie_apart hliN hAl (by first | exact hltA | exact Nat.lt_of_lt_of_le hltA hb2.size | (simp; omega)) hUG (fun q hq => (hUq q hq).2)))); have hF6 : Below (g7 + 1) w' w6 := fr_grown (by first | assumption | exact hFa _ _ (by assumption)) hgN (fun q hq => (hUq q hq).1) hg7w; obtain ⟨f10, f11, f12, f13⟩ := HL w6 hF6; (try (have hG6 : w6.ownsRow (g7 + 1) 36 1 (.slice G j cg) j (natL gs) := kept_ne (by first | assumption | exact World.ownsRow.alloc (by assumption) _) hgN hGU)); (try (have eE6 : w6.heap[w'.heap.size]? = some (.cells #[.int .u64 Gt] 36 (0, 0)) := cell_kept eE hgN (fun e => by have := (hUq _ e).2; omega))); (try (have eE6 := cell_kept (heap_alloc_new w2 (.cells #[.int .u64 Gt] 36)) hgN (fun e => by have := (hUq _ e).2; have := hF2.size; omega)))))
                  go_wp2_with fail
                  refine hK.out _ _ (by (try dsimp only); (first | with_reducible assumption | (refine HK _ ?_; first | exact Below.mono (by assumption) (Nat.le_succ g7) | exact Below.mono (hFa _ _ (by assumption)) (Nat.le_succ g7) | exact (Below.mono (by assumption) (Nat.le_succ g7)).setCell (Nat.le_refl _) _ | exact ((Below.mono (by assumption) (Nat.le_succ g7)).setCell (Nat.le_refl _) _).setCell (Nat.le_refl _) _))) (fun hHeld31 => ?_)
                  clear hK K hHeld30
                  try simp only [Act.put, List.setIfInBounds_toArray, List.set_cons_zero, List.set_cons_succ]
                  refine wpAnyH_ready (rs := [16]) (by kernel_rfl) (by simp) ?_
                  refine held_cons (by rfl) (fun K hK => ?_) ?_
                  · (first | (go_at_call 56; refine (HNew.out _ (hwF _ (by first | assumption | exact hFa _ _ (by assumption)))).mono ?_; rintro e w2 ⟨rfl, hC, hb2⟩; have hCs := call_size (g7 := g7) (Y := w') (by first | assumption | exact hFa _ _ (by assumption)) hb2; have hF2 : Below (g7 + 1) w' w2 := fr_call (by first | assumption | exact hFa _ _ (by assumption)) hb2 hg7w; obtain ⟨c10, c11, c12, c13⟩ := HL w2 hF2; (try (have hG2 : w2.ownsRow (g7 + 1) 36 1 (.slice G j cg) j (natL gs) := own_below (by first | assumption | exact World.ownsRow.alloc (by assumption) _) hb2)); (try (have hU2 : w2.ownsRow (g7 + 1) 36 1 (.slice U us.length cu) us.length (u64V us) := own_below (by first | assumption | exact World.ownsRow.alloc (by assumption) _) hb2)); (try (have eE : w2.heap[w'.heap.size]? = some (.cells #[.int .u64 Gt] 36 (0, 0)) := (hb2.block w'.heap.size (by simp)).trans hEE)); (try (have hA2 := own_below hA hb2))) | (refine step_append_lies _ rfl (.tmp 23) (.tmp 31) 39 rfl (g7 + 1) 36 i0 _ 1 8 und_u64s hi hz0 hz1 hz2 rfl (by decide) (.slice G j cg) j (natL gs) rfl (by first | assumption | exact World.ownsRow.alloc (by assumption) _) _ 1 1 [.int .u64 Gt] rfl rfl (by first | exact cell_one_new _ _ _ | exact one_cell (by assumption)) (by simp [Value.oneCell']) (by omega) (by unfold maxLen; omega) (by omega) (by first | (have hq := hF6.size; simp; omega) | (have hq := hF4.size; simp; omega) | (have hq := hF2.size; simp; omega) | (have hq := hF0.size; simp; omega) | (simp; omega)) _ rfl ?_; intro ga ca w4 hA hgA hliA hltA; have hAl := lie_low (b := w'.heap.size) hliA (by first | (have hq := hF6.size; simp; omega) | (have hq := hF2.size; simp; omega) | simp); have hAU := lie_ne (n := j + 1) (c := ca) hAl hGU (fun q hq => (hUq q hq).2); (try (have hne4 : ga ≠ gn := lie_apart hliA hNl (by first | exact hltN | (simp; omega)) hGU (fun q hq => (hGq q hq).2))); have hF4 : Below (g7 + 1) w' w4 := fr_grown (by first | assumption | exact hFa _ _ (by assumption)) hgA (fun q hq => (hGq q hq).1) hg7w; obtain ⟨d10, d11, d12, d13⟩ := HL w4 hF4; (try (have hU4 : w4.ownsRow (g7 + 1) 36 1 (.slice U us.length cu) us.length (u64V us) := kept_ne (by first | assumption | exact World.ownsRow.alloc (by assumption) _) hgA hUG)); (try (have hC4 := kept_ne hC hgA (fun q hq hq2 => by cases hq; have := (hGq _ hq2).2; omega))); (try (have hC4 := kept_ne (hC.alloc _) hgA (fun q hq hq2 => by cases hq; have := (hGq _ hq2).2; omega))); (try (have hN4 := kept_ne hN hgA hNG)); (try (have hN4 := kept_ne (hN.alloc _) hgA hNG))) | (refine step_append_lies _ rfl (.tmp 34) (.tmp 37) 39 rfl (g7 + 1) 36 i0 _ 1 8 und_u64s hi hz0 hz1 hz2 rfl (by decide) (.slice U us.length cu) us.length (u64V us) rfl (by first | assumption | exact World.ownsRow.alloc (by assumption) _) _ nw.length _ (u64V nw) rfl (by simp) (own_cells (by first | assumption | exact World.ownsRow.alloc (by assumption) _)) (by simp [Value.oneCell']) hnw1 (by unfold maxLen; omega) (by omega) (by first | (have hq := hF6.size; simp; omega) | (have hq := hF4.size; simp; omega) | (have hq := hF2.size; simp; omega) | (have hq := hF0.size; simp; omega) | (simp; omega)) _ rfl ?_; intro gn cn w6 hN hgN hliN hltN; have hNl := lie_low (b := w'.heap.size) hliN (by first | (have hq := hF4.size; simp; omega) | (have hq := hF2.size; simp; omega)); have hNG := lie_ne (n := us.length + nw.length) (c := cn) hNl hUG (fun q hq => (hGq q hq).2); (try (have hA6 := kept_ne hA hgN hAU)); (try (have hA6 := kept_ne hA2 hgN hAU)); (try (have hne6 : ga ≠ gn := Ne.symm (lie_apart hliN hAl (by first | exact hltA | exact Nat.lt_of_lt_of_le hltA hb2.size | (simp; omega)) hUG (fun q hq => (hUq q hq).2)))); have hF6 : Below (g7 + 1) w' w6 := fr_grown (by first | assumption | exact hFa _ _ (by assumption)) hgN (fun q hq => (hUq q hq).1) hg7w; obtain ⟨f10, f11, f12, f13⟩ := HL w6 hF6; (try (have hG6 : w6.ownsRow (g7 + 1) 36 1 (.slice G j cg) j (natL gs) := kept_ne (by first | assumption | exact World.ownsRow.alloc (by assumption) _) hgN hGU)); (try (have eE6 : w6.heap[w'.heap.size]? = some (.cells #[.int .u64 Gt] 36 (0, 0)) := cell_kept eE hgN (fun e => by have := (hUq _ e).2; omega))); (try (have eE6 := cell_kept (heap_alloc_new w2 (.cells #[.int .u64 Gt] 36)) hgN (fun e => by have := (hUq _ e).2; have := hF2.size; omega)))))
                    refine hK.out _ _ (by (try dsimp only); (first | with_reducible assumption | (refine HK _ ?_; first | exact Below.mono (by assumption) (Nat.le_succ g7) | exact Below.mono (hFa _ _ (by assumption)) (Nat.le_succ g7) | exact (Below.mono (by assumption) (Nat.le_succ g7)).setCell (Nat.le_refl _) _ | exact ((Below.mono (by assumption) (Nat.le_succ g7)).setCell (Nat.le_refl _) _).setCell (Nat.le_refl _) _))) (fun hHeld32 => ?_)
                    clear hK K hHeld31
                    try simp only [Act.put, List.setIfInBounds_toArray, List.set_cons_zero, List.set_cons_succ]
                    refine wpAnyH_ready (rs := [18]) (by kernel_rfl) (by simp) ?_
                    refine held_cons (by rfl) (fun K hK => ?_) ?_
                    · go_simp
                      refine hK.out _ _ (by (try dsimp only); (first | with_reducible assumption | (refine HK _ ?_; first | exact Below.mono (by assumption) (Nat.le_succ g7) | exact Below.mono (hFa _ _ (by assumption)) (Nat.le_succ g7) | exact (Below.mono (by assumption) (Nat.le_succ g7)).setCell (Nat.le_refl _) _ | exact ((Below.mono (by assumption) (Nat.le_succ g7)).setCell (Nat.le_refl _) _).setCell (Nat.le_refl _) _))) (fun hHeld33 => ?_)
                      clear hK K hHeld32
                      try simp only [Act.put, List.setIfInBounds_toArray, List.set_cons_zero, List.set_cons_succ]
                      refine held_take (i := 19) (v := ?_) (by rfl) (by kernel_rfl) (by kernel_rfl) (by kernel_rfl) (fun _ _ _ h => h) (Or.inl ⟨by rfl, ?_⟩) hHeld33 ?_
                      rotate_left
                      · (intro w hSw; (try dsimp only at hSw); go_simp; try with_reducible rfl)
                      try simp only [Act.put, List.setIfInBounds_toArray, List.set_cons_zero, List.set_cons_succ]
                      refine wpAnyH_ready (rs := [20]) (by kernel_rfl) (by simp) ?_
                      refine held_cons (by rfl) (fun K hK => ?_) ?_
                      · go_simp
                        refine hK.out _ _ (by (try dsimp only); (first | with_reducible assumption | (refine HK _ ?_; first | exact Below.mono (by assumption) (Nat.le_succ g7) | exact Below.mono (hFa _ _ (by assumption)) (Nat.le_succ g7) | exact (Below.mono (by assumption) (Nat.le_succ g7)).setCell (Nat.le_refl _) _ | exact ((Below.mono (by assumption) (Nat.le_succ g7)).setCell (Nat.le_refl _) _).setCell (Nat.le_refl _) _))) (fun hHeld34 => ?_)
                        clear hK K hHeld33
                        try simp only [Act.put, List.setIfInBounds_toArray, List.set_cons_zero, List.set_cons_succ]
                        refine wpAnyH_done (by kernel_rfl) ?_ _
                        refine NoPanic.normal ?_
                        clear hHeld34
                        have hgoal : Below (g7 + 1) w' w6 ∧ w6.ownsRow (g7 + 1) 36 1 (.slice (some ⟨ga, 0, none⟩) (j + 1) ca) (j + 1) (natL gs ++ [.int .u64 Gt]) ∧ w6.ownsRow (g7 + 1) 36 1 (.slice (some ⟨gn, 0, none⟩) (us.length + nw.length) cn) (us.length + nw.length) (u64V us ++ u64V nw) ∧ ga ≠ gn := ⟨hF6, by assumption, by assumption, by assumption⟩
                        obtain ⟨k1, k2, k3, k4⟩ := hgoal
                        have hg6 : w6.heap[g7]? = some (.cells #[.int .i64 0, .int .i64 0, .int .u64 0, .int .i64 0, .int .u64 0, .int .i64 0, .int .i64 0, .bool false, .int .i64 0, .int .u64 0, .slice G j cg, .slice U us.length cu] 41) := (k1.block _ (Nat.lt_succ_self _)).trans hT7
                        have hq2 := heap_setCell_same _ g7 11 _ _ (.slice (some ⟨gn, 0, none⟩) (us.length + nw.length) cn) (heap_setCell_same w6 g7 10 _ _ (.slice (some ⟨ga, 0, none⟩) (j + 1) ca) hg6)
                        have hga7 : g7 + 1 ≤ ga := (k2.lt ga rfl).1
                        have hgn7 : g7 + 1 ≤ gn := (k3.lt gn rfl).1
                        have hBz : Below g7 Z ((w6.setCell ⟨g7, 10, none⟩ (.slice (some ⟨ga, 0, none⟩) (j + 1) ca)).setCell ⟨g7, 11, none⟩ (.slice (some ⟨gn, 0, none⟩) (us.length + nw.length) cn)) :=
                          ((hbel.trans (k1.mono (Nat.le_succ g7))).setCell (Nat.le_refl g7) _).setCell (Nat.le_refl g7) _
                        have hoz : ∀ q : Nat, q ≠ g7 → ((w6.setCell ⟨g7, 10, none⟩ (.slice (some ⟨ga, 0, none⟩) (j + 1) ca)).setCell ⟨g7, 11, none⟩ (.slice (some ⟨gn, 0, none⟩) (us.length + nw.length) cn)).heap[q]? = w6.heap[q]? := fun q hq =>
                          (Below.heap_setCell _ ⟨g7, 11, none⟩ _ _ hq).trans (Below.heap_setCell w6 ⟨g7, 10, none⟩ _ _ hq)
                        generalize ((w6.setCell ⟨g7, 10, none⟩ (.slice (some ⟨ga, 0, none⟩) (j + 1) ca)).setCell ⟨g7, 11, none⟩ (.slice (some ⟨gn, 0, none⟩) (us.length + nw.length) cn)) = z at *
                        have hAz := own_keepAt k2 (w' := z) (fun q hq => by cases hq; exact hoz ga (by omega))
                        have hNz := own_keepAt k3 (w' := z) (fun q hq => by cases hq; exact hoz gn (by omega))
                        have HAz := hide hAz
                        have HNz := hide hNz
                        have Hq2 := hide hq2
                        have HBz := hide hBz
                        clear hAz hNz hq2 hBz hoz k1 k2 k3 hg6
                        go_wp2
                        go_roundw
                        case rel =>
                          refine ⟨j + 1, gs ++ [Gt], us ++ nw, some ⟨ga, 0, none⟩, ca, some ⟨gn, 0, none⟩, cn, by omega, by go_num, Hnx, by simp [hgs], by rw [List.length_append]; omega, HBz.out, ?_, ?_, ?_, ?_⟩
                          · rw [List.length_append]
                            simpa using Hq2.out
                          · rw [natL_snoc]
                            exact HAz.out
                          · rw [List.length_append]
                            simpa using HNz.out
                          · intro q hq hq2
                            cases hq
                            cases hq2
                            exact k4 rfl
                        case measure => simp [intOf]; omega
                      exact AllReadyH.nil
                    exact AllReadyH.nil
                  exact AllReadyH.nil
                exact AllReadyH.nil
              refine held_cons (by rfl) (fun K hK => ?_) ?_
              · go_simp
                (first | (go_at_call 56; refine (HNew.out _ (hwF _ (by first | assumption | exact hFa _ _ (by assumption)))).mono ?_; rintro e w2 ⟨rfl, hC, hb2⟩; have hCs := call_size (g7 := g7) (Y := w') (by first | assumption | exact hFa _ _ (by assumption)) hb2; have hF2 : Below (g7 + 1) w' w2 := fr_call (by first | assumption | exact hFa _ _ (by assumption)) hb2 hg7w; obtain ⟨c10, c11, c12, c13⟩ := HL w2 hF2; (try (have hG2 : w2.ownsRow (g7 + 1) 36 1 (.slice G j cg) j (natL gs) := own_below (by first | assumption | exact World.ownsRow.alloc (by assumption) _) hb2)); (try (have hU2 : w2.ownsRow (g7 + 1) 36 1 (.slice U us.length cu) us.length (u64V us) := own_below (by first | assumption | exact World.ownsRow.alloc (by assumption) _) hb2)); (try (have eE : w2.heap[w'.heap.size]? = some (.cells #[.int .u64 Gt] 36 (0, 0)) := (hb2.block w'.heap.size (by simp)).trans hEE)); (try (have hA2 := own_below hA hb2))) | (refine step_append_lies _ rfl (.tmp 23) (.tmp 31) 39 rfl (g7 + 1) 36 i0 _ 1 8 und_u64s hi hz0 hz1 hz2 rfl (by decide) (.slice G j cg) j (natL gs) rfl (by first | assumption | exact World.ownsRow.alloc (by assumption) _) _ 1 1 [.int .u64 Gt] rfl rfl (by first | exact cell_one_new _ _ _ | exact one_cell (by assumption)) (by simp [Value.oneCell']) (by omega) (by unfold maxLen; omega) (by omega) (by first | (have hq := hF6.size; simp; omega) | (have hq := hF4.size; simp; omega) | (have hq := hF2.size; simp; omega) | (have hq := hF0.size; simp; omega) | (simp; omega)) _ rfl ?_; intro ga ca w4 hA hgA hliA hltA; have hAl := lie_low (b := w'.heap.size) hliA (by first | (have hq := hF6.size; simp; omega) | (have hq := hF2.size; simp; omega) | simp); have hAU := lie_ne (n := j + 1) (c := ca) hAl hGU (fun q hq => (hUq q hq).2); (try (have hne4 : ga ≠ gn := lie_apart hliA hNl (by first | exact hltN | (simp; omega)) hGU (fun q hq => (hGq q hq).2))); have hF4 : Below (g7 + 1) w' w4 := fr_grown (by first | assumption | exact hFa _ _ (by assumption)) hgA (fun q hq => (hGq q hq).1) hg7w; obtain ⟨d10, d11, d12, d13⟩ := HL w4 hF4; (try (have hU4 : w4.ownsRow (g7 + 1) 36 1 (.slice U us.length cu) us.length (u64V us) := kept_ne (by first | assumption | exact World.ownsRow.alloc (by assumption) _) hgA hUG)); (try (have hC4 := kept_ne hC hgA (fun q hq hq2 => by cases hq; have := (hGq _ hq2).2; omega))); (try (have hC4 := kept_ne (hC.alloc _) hgA (fun q hq hq2 => by cases hq; have := (hGq _ hq2).2; omega))); (try (have hN4 := kept_ne hN hgA hNG)); (try (have hN4 := kept_ne (hN.alloc _) hgA hNG))) | (refine step_append_lies _ rfl (.tmp 34) (.tmp 37) 39 rfl (g7 + 1) 36 i0 _ 1 8 und_u64s hi hz0 hz1 hz2 rfl (by decide) (.slice U us.length cu) us.length (u64V us) rfl (by first | assumption | exact World.ownsRow.alloc (by assumption) _) _ nw.length _ (u64V nw) rfl (by simp) (own_cells (by first | assumption | exact World.ownsRow.alloc (by assumption) _)) (by simp [Value.oneCell']) hnw1 (by unfold maxLen; omega) (by omega) (by first | (have hq := hF6.size; simp; omega) | (have hq := hF4.size; simp; omega) | (have hq := hF2.size; simp; omega) | (have hq := hF0.size; simp; omega) | (simp; omega)) _ rfl ?_; intro gn cn w6 hN hgN hliN hltN; have hNl := lie_low (b := w'.heap.size) hliN (by first | (have hq := hF4.size; simp; omega) | (have hq := hF2.size; simp; omega)); have hNG := lie_ne (n := us.length + nw.length) (c := cn) hNl hUG (fun q hq => (hGq q hq).2); (try (have hA6 := kept_ne hA hgN hAU)); (try (have hA6 := kept_ne hA2 hgN hAU)); (try (have hne6 : ga ≠ gn := Ne.symm (lie_apart hliN hAl (by first | exact hltA | exact Nat.lt_of_lt_of_le hltA hb2.size | (simp; omega)) hUG (fun q hq => (hUq q hq).2)))); have hF6 : Below (g7 + 1) w' w6 := fr_grown (by first | assumption | exact hFa _ _ (by assumption)) hgN (fun q hq => (hUq q hq).1) hg7w; obtain ⟨f10, f11, f12, f13⟩ := HL w6 hF6; (try (have hG6 : w6.ownsRow (g7 + 1) 36 1 (.slice G j cg) j (natL gs) := kept_ne (by first | assumption | exact World.ownsRow.alloc (by assumption) _) hgN hGU)); (try (have eE6 : w6.heap[w'.heap.size]? = some (.cells #[.int .u64 Gt] 36 (0, 0)) := cell_kept eE hgN (fun e => by have := (hUq _ e).2; omega))); (try (have eE6 := cell_kept (heap_alloc_new w2 (.cells #[.int .u64 Gt] 36)) hgN (fun e => by have := (hUq _ e).2; have := hF2.size; omega)))))
                go_wp2_with fail
                refine hK.out _ _ (by (try dsimp only); (first | with_reducible assumption | (refine HK _ ?_; first | exact Below.mono (by assumption) (Nat.le_succ g7) | exact Below.mono (hFa _ _ (by assumption)) (Nat.le_succ g7) | exact (Below.mono (by assumption) (Nat.le_succ g7)).setCell (Nat.le_refl _) _ | exact ((Below.mono (by assumption) (Nat.le_succ g7)).setCell (Nat.le_refl _) _).setCell (Nat.le_refl _) _))) (fun hHeld35 => ?_)
                clear hK K hHeld29
                try simp only [Act.put, List.setIfInBounds_toArray, List.set_cons_zero, List.set_cons_succ]
                refine wpAnyH_ready (rs := [12]) (by kernel_rfl) (by simp) ?_
                refine held_cons (by rfl) (fun K hK => ?_) ?_
                · go_simp
                  refine hK.out _ _ (by (try dsimp only); (first | with_reducible assumption | (refine HK _ ?_; first | exact Below.mono (by assumption) (Nat.le_succ g7) | exact Below.mono (hFa _ _ (by assumption)) (Nat.le_succ g7) | exact (Below.mono (by assumption) (Nat.le_succ g7)).setCell (Nat.le_refl _) _ | exact ((Below.mono (by assumption) (Nat.le_succ g7)).setCell (Nat.le_refl _) _).setCell (Nat.le_refl _) _))) (fun hHeld36 => ?_)
                  clear hK K hHeld35
                  try simp only [Act.put, List.setIfInBounds_toArray, List.set_cons_zero, List.set_cons_succ]
                  refine held_take (i := 17) (v := ?_) (by rfl) (by kernel_rfl) (by kernel_rfl) (by kernel_rfl) (fun _ _ _ h => h) (Or.inl ⟨by rfl, ?_⟩) hHeld36 ?_
                  rotate_left
                  · (intro w hSw; (try dsimp only at hSw); go_simp; try with_reducible rfl)
                  try simp only [Act.put, List.setIfInBounds_toArray, List.set_cons_zero, List.set_cons_succ]
                  refine wpAnyH_ready (rs := [16]) (by kernel_rfl) (by simp) ?_
                  refine held_cons (by rfl) (fun K hK => ?_) ?_
                  · (first | (go_at_call 56; refine (HNew.out _ (hwF _ (by first | assumption | exact hFa _ _ (by assumption)))).mono ?_; rintro e w2 ⟨rfl, hC, hb2⟩; have hCs := call_size (g7 := g7) (Y := w') (by first | assumption | exact hFa _ _ (by assumption)) hb2; have hF2 : Below (g7 + 1) w' w2 := fr_call (by first | assumption | exact hFa _ _ (by assumption)) hb2 hg7w; obtain ⟨c10, c11, c12, c13⟩ := HL w2 hF2; (try (have hG2 : w2.ownsRow (g7 + 1) 36 1 (.slice G j cg) j (natL gs) := own_below (by first | assumption | exact World.ownsRow.alloc (by assumption) _) hb2)); (try (have hU2 : w2.ownsRow (g7 + 1) 36 1 (.slice U us.length cu) us.length (u64V us) := own_below (by first | assumption | exact World.ownsRow.alloc (by assumption) _) hb2)); (try (have eE : w2.heap[w'.heap.size]? = some (.cells #[.int .u64 Gt] 36 (0, 0)) := (hb2.block w'.heap.size (by simp)).trans hEE)); (try (have hA2 := own_below hA hb2))) | (refine step_append_lies _ rfl (.tmp 23) (.tmp 31) 39 rfl (g7 + 1) 36 i0 _ 1 8 und_u64s hi hz0 hz1 hz2 rfl (by decide) (.slice G j cg) j (natL gs) rfl (by first | assumption | exact World.ownsRow.alloc (by assumption) _) _ 1 1 [.int .u64 Gt] rfl rfl (by first | exact cell_one_new _ _ _ | exact one_cell (by assumption)) (by simp [Value.oneCell']) (by omega) (by unfold maxLen; omega) (by omega) (by first | (have hq := hF6.size; simp; omega) | (have hq := hF4.size; simp; omega) | (have hq := hF2.size; simp; omega) | (have hq := hF0.size; simp; omega) | (simp; omega)) _ rfl ?_; intro ga ca w4 hA hgA hliA hltA; have hAl := lie_low (b := w'.heap.size) hliA (by first | (have hq := hF6.size; simp; omega) | (have hq := hF2.size; simp; omega) | simp); have hAU := lie_ne (n := j + 1) (c := ca) hAl hGU (fun q hq => (hUq q hq).2); (try (have hne4 : ga ≠ gn := lie_apart hliA hNl (by first | exact hltN | (simp; omega)) hGU (fun q hq => (hGq q hq).2))); have hF4 : Below (g7 + 1) w' w4 := fr_grown (by first | assumption | exact hFa _ _ (by assumption)) hgA (fun q hq => (hGq q hq).1) hg7w; obtain ⟨d10, d11, d12, d13⟩ := HL w4 hF4; (try (have hU4 : w4.ownsRow (g7 + 1) 36 1 (.slice U us.length cu) us.length (u64V us) := kept_ne (by first | assumption | exact World.ownsRow.alloc (by assumption) _) hgA hUG)); (try (have hC4 := kept_ne hC hgA (fun q hq hq2 => by cases hq; have := (hGq _ hq2).2; omega))); (try (have hC4 := kept_ne (hC.alloc _) hgA (fun q hq hq2 => by cases hq; have := (hGq _ hq2).2; omega))); (try (have hN4 := kept_ne hN hgA hNG)); (try (have hN4 := kept_ne (hN.alloc _) hgA hNG))) | (refine step_append_lies _ rfl (.tmp 34) (.tmp 37) 39 rfl (g7 + 1) 36 i0 _ 1 8 und_u64s hi hz0 hz1 hz2 rfl (by decide) (.slice U us.length cu) us.length (u64V us) rfl (by first | assumption | exact World.ownsRow.alloc (by assumption) _) _ nw.length _ (u64V nw) rfl (by simp) (own_cells (by first | assumption | exact World.ownsRow.alloc (by assumption) _)) (by simp [Value.oneCell']) hnw1 (by unfold maxLen; omega) (by omega) (by first | (have hq := hF6.size; simp; omega) | (have hq := hF4.size; simp; omega) | (have hq := hF2.size; simp; omega) | (have hq := hF0.size; simp; omega) | (simp; omega)) _ rfl ?_; intro gn cn w6 hN hgN hliN hltN; have hNl := lie_low (b := w'.heap.size) hliN (by first | (have hq := hF4.size; simp; omega) | (have hq := hF2.size; simp; omega)); have hNG := lie_ne (n := us.length + nw.length) (c := cn) hNl hUG (fun q hq => (hGq q hq).2); (try (have hA6 := kept_ne hA hgN hAU)); (try (have hA6 := kept_ne hA2 hgN hAU)); (try (have hne6 : ga ≠ gn := Ne.symm (lie_apart hliN hAl (by first | exact hltA | exact Nat.lt_of_lt_of_le hltA hb2.size | (simp; omega)) hUG (fun q hq => (hUq q hq).2)))); have hF6 : Below (g7 + 1) w' w6 := fr_grown (by first | assumption | exact hFa _ _ (by assumption)) hgN (fun q hq => (hUq q hq).1) hg7w; obtain ⟨f10, f11, f12, f13⟩ := HL w6 hF6; (try (have hG6 : w6.ownsRow (g7 + 1) 36 1 (.slice G j cg) j (natL gs) := kept_ne (by first | assumption | exact World.ownsRow.alloc (by assumption) _) hgN hGU)); (try (have eE6 : w6.heap[w'.heap.size]? = some (.cells #[.int .u64 Gt] 36 (0, 0)) := cell_kept eE hgN (fun e => by have := (hUq _ e).2; omega))); (try (have eE6 := cell_kept (heap_alloc_new w2 (.cells #[.int .u64 Gt] 36)) hgN (fun e => by have := (hUq _ e).2; have := hF2.size; omega)))))
                    refine hK.out _ _ (by (try dsimp only); (first | with_reducible assumption | (refine HK _ ?_; first | exact Below.mono (by assumption) (Nat.le_succ g7) | exact Below.mono (hFa _ _ (by assumption)) (Nat.le_succ g7) | exact (Below.mono (by assumption) (Nat.le_succ g7)).setCell (Nat.le_refl _) _ | exact ((Below.mono (by assumption) (Nat.le_succ g7)).setCell (Nat.le_refl _) _).setCell (Nat.le_refl _) _))) (fun hHeld37 => ?_)
                    clear hK K hHeld36
                    try simp only [Act.put, List.setIfInBounds_toArray, List.set_cons_zero, List.set_cons_succ]
                    refine wpAnyH_ready (rs := [18]) (by kernel_rfl) (by simp) ?_
                    refine held_cons (by rfl) (fun K hK => ?_) ?_
                    · go_simp
                      refine hK.out _ _ (by (try dsimp only); (first | with_reducible assumption | (refine HK _ ?_; first | exact Below.mono (by assumption) (Nat.le_succ g7) | exact Below.mono (hFa _ _ (by assumption)) (Nat.le_succ g7) | exact (Below.mono (by assumption) (Nat.le_succ g7)).setCell (Nat.le_refl _) _ | exact ((Below.mono (by assumption) (Nat.le_succ g7)).setCell (Nat.le_refl _) _).setCell (Nat.le_refl _) _))) (fun hHeld38 => ?_)
                      clear hK K hHeld37
                      try simp only [Act.put, List.setIfInBounds_toArray, List.set_cons_zero, List.set_cons_succ]
                      refine held_take (i := 19) (v := ?_) (by rfl) (by kernel_rfl) (by kernel_rfl) (by kernel_rfl) (fun _ _ _ h => h) (Or.inl ⟨by rfl, ?_⟩) hHeld38 ?_
                      rotate_left
                      · (intro w hSw; (try dsimp only at hSw); go_simp; try with_reducible rfl)
                      try simp only [Act.put, List.setIfInBounds_toArray, List.set_cons_zero, List.set_cons_succ]
                      refine wpAnyH_ready (rs := [20]) (by kernel_rfl) (by simp) ?_
                      refine held_cons (by rfl) (fun K hK => ?_) ?_
                      · go_simp
                        refine hK.out _ _ (by (try dsimp only); (first | with_reducible assumption | (refine HK _ ?_; first | exact Below.mono (by assumption) (Nat.le_succ g7) | exact Below.mono (hFa _ _ (by assumption)) (Nat.le_succ g7) | exact (Below.mono (by assumption) (Nat.le_succ g7)).setCell (Nat.le_refl _) _ | exact ((Below.mono (by assumption) (Nat.le_succ g7)).setCell (Nat.le_refl _) _).setCell (Nat.le_refl _) _))) (fun hHeld39 => ?_)
                        clear hK K hHeld38
                        try simp only [Act.put, List.setIfInBounds_toArray, List.set_cons_zero, List.set_cons_succ]
                        refine wpAnyH_done (by kernel_rfl) ?_ _
                        refine NoPanic.normal ?_
                        clear hHeld39
                        have hgoal : Below (g7 + 1) w' w6 ∧ w6.ownsRow (g7 + 1) 36 1 (.slice (some ⟨ga, 0, none⟩) (j + 1) ca) (j + 1) (natL gs ++ [.int .u64 Gt]) ∧ w6.ownsRow (g7 + 1) 36 1 (.slice (some ⟨gn, 0, none⟩) (us.length + nw.length) cn) (us.length + nw.length) (u64V us ++ u64V nw) ∧ ga ≠ gn := ⟨hF6, by assumption, by assumption, by assumption⟩
                        obtain ⟨k1, k2, k3, k4⟩ := hgoal
                        have hg6 : w6.heap[g7]? = some (.cells #[.int .i64 0, .int .i64 0, .int .u64 0, .int .i64 0, .int .u64 0, .int .i64 0, .int .i64 0, .bool false, .int .i64 0, .int .u64 0, .slice G j cg, .slice U us.length cu] 41) := (k1.block _ (Nat.lt_succ_self _)).trans hT7
                        have hq2 := heap_setCell_same _ g7 11 _ _ (.slice (some ⟨gn, 0, none⟩) (us.length + nw.length) cn) (heap_setCell_same w6 g7 10 _ _ (.slice (some ⟨ga, 0, none⟩) (j + 1) ca) hg6)
                        have hga7 : g7 + 1 ≤ ga := (k2.lt ga rfl).1
                        have hgn7 : g7 + 1 ≤ gn := (k3.lt gn rfl).1
                        have hBz : Below g7 Z ((w6.setCell ⟨g7, 10, none⟩ (.slice (some ⟨ga, 0, none⟩) (j + 1) ca)).setCell ⟨g7, 11, none⟩ (.slice (some ⟨gn, 0, none⟩) (us.length + nw.length) cn)) :=
                          ((hbel.trans (k1.mono (Nat.le_succ g7))).setCell (Nat.le_refl g7) _).setCell (Nat.le_refl g7) _
                        have hoz : ∀ q : Nat, q ≠ g7 → ((w6.setCell ⟨g7, 10, none⟩ (.slice (some ⟨ga, 0, none⟩) (j + 1) ca)).setCell ⟨g7, 11, none⟩ (.slice (some ⟨gn, 0, none⟩) (us.length + nw.length) cn)).heap[q]? = w6.heap[q]? := fun q hq =>
                          (Below.heap_setCell _ ⟨g7, 11, none⟩ _ _ hq).trans (Below.heap_setCell w6 ⟨g7, 10, none⟩ _ _ hq)
                        generalize ((w6.setCell ⟨g7, 10, none⟩ (.slice (some ⟨ga, 0, none⟩) (j + 1) ca)).setCell ⟨g7, 11, none⟩ (.slice (some ⟨gn, 0, none⟩) (us.length + nw.length) cn)) = z at *
                        have hAz := own_keepAt k2 (w' := z) (fun q hq => by cases hq; exact hoz ga (by omega))
                        have hNz := own_keepAt k3 (w' := z) (fun q hq => by cases hq; exact hoz gn (by omega))
                        have HAz := hide hAz
                        have HNz := hide hNz
                        have Hq2 := hide hq2
                        have HBz := hide hBz
                        clear hAz hNz hq2 hBz hoz k1 k2 k3 hg6
                        go_wp2
                        go_roundw
                        case rel =>
                          refine ⟨j + 1, gs ++ [Gt], us ++ nw, some ⟨ga, 0, none⟩, ca, some ⟨gn, 0, none⟩, cn, by omega, by go_num, Hnx, by simp [hgs], by rw [List.length_append]; omega, HBz.out, ?_, ?_, ?_, ?_⟩
                          · rw [List.length_append]
                            simpa using Hq2.out
                          · rw [natL_snoc]
                            exact HAz.out
                          · rw [List.length_append]
                            simpa using HNz.out
                          · intro q hq hq2
                            cases hq
                            cases hq2
                            exact k4 rfl
                        case measure => simp [intOf]; omega
                      exact AllReadyH.nil
                    exact AllReadyH.nil
                  exact AllReadyH.nil
                exact AllReadyH.nil
              exact AllReadyH.nil
            refine held_cons (by rfl) (fun K hK => ?_) ?_
            · go_simp
              refine hK.out _ _ (by (try dsimp only); (first | with_reducible assumption | (refine HK _ ?_; first | exact Below.mono (by assumption) (Nat.le_succ g7) | exact Below.mono (hFa _ _ (by assumption)) (Nat.le_succ g7) | exact (Below.mono (by assumption) (Nat.le_succ g7)).setCell (Nat.le_refl _) _ | exact ((Below.mono (by assumption) (Nat.le_succ g7)).setCell (Nat.le_refl _) _).setCell (Nat.le_refl _) _))) (fun hHeld40 => ?_)
              clear hK K hHeld28
              try simp only [Act.put, List.setIfInBounds_toArray, List.set_cons_zero, List.set_cons_succ]
              refine wpAnyH_ready (rs := [10]) (by kernel_rfl) (by simp) ?_
              refine held_cons (by rfl) (fun K hK => ?_) ?_
              · (first | (go_at_call 56; refine (HNew.out _ (hwF _ (by first | assumption | exact hFa _ _ (by assumption)))).mono ?_; rintro e w2 ⟨rfl, hC, hb2⟩; have hCs := call_size (g7 := g7) (Y := w') (by first | assumption | exact hFa _ _ (by assumption)) hb2; have hF2 : Below (g7 + 1) w' w2 := fr_call (by first | assumption | exact hFa _ _ (by assumption)) hb2 hg7w; obtain ⟨c10, c11, c12, c13⟩ := HL w2 hF2; (try (have hG2 : w2.ownsRow (g7 + 1) 36 1 (.slice G j cg) j (natL gs) := own_below (by first | assumption | exact World.ownsRow.alloc (by assumption) _) hb2)); (try (have hU2 : w2.ownsRow (g7 + 1) 36 1 (.slice U us.length cu) us.length (u64V us) := own_below (by first | assumption | exact World.ownsRow.alloc (by assumption) _) hb2)); (try (have eE : w2.heap[w'.heap.size]? = some (.cells #[.int .u64 Gt] 36 (0, 0)) := (hb2.block w'.heap.size (by simp)).trans hEE)); (try (have hA2 := own_below hA hb2))) | (refine step_append_lies _ rfl (.tmp 23) (.tmp 31) 39 rfl (g7 + 1) 36 i0 _ 1 8 und_u64s hi hz0 hz1 hz2 rfl (by decide) (.slice G j cg) j (natL gs) rfl (by first | assumption | exact World.ownsRow.alloc (by assumption) _) _ 1 1 [.int .u64 Gt] rfl rfl (by first | exact cell_one_new _ _ _ | exact one_cell (by assumption)) (by simp [Value.oneCell']) (by omega) (by unfold maxLen; omega) (by omega) (by first | (have hq := hF6.size; simp; omega) | (have hq := hF4.size; simp; omega) | (have hq := hF2.size; simp; omega) | (have hq := hF0.size; simp; omega) | (simp; omega)) _ rfl ?_; intro ga ca w4 hA hgA hliA hltA; have hAl := lie_low (b := w'.heap.size) hliA (by first | (have hq := hF6.size; simp; omega) | (have hq := hF2.size; simp; omega) | simp); have hAU := lie_ne (n := j + 1) (c := ca) hAl hGU (fun q hq => (hUq q hq).2); (try (have hne4 : ga ≠ gn := lie_apart hliA hNl (by first | exact hltN | (simp; omega)) hGU (fun q hq => (hGq q hq).2))); have hF4 : Below (g7 + 1) w' w4 := fr_grown (by first | assumption | exact hFa _ _ (by assumption)) hgA (fun q hq => (hGq q hq).1) hg7w; obtain ⟨d10, d11, d12, d13⟩ := HL w4 hF4; (try (have hU4 : w4.ownsRow (g7 + 1) 36 1 (.slice U us.length cu) us.length (u64V us) := kept_ne (by first | assumption | exact World.ownsRow.alloc (by assumption) _) hgA hUG)); (try (have hC4 := kept_ne hC hgA (fun q hq hq2 => by cases hq; have := (hGq _ hq2).2; omega))); (try (have hC4 := kept_ne (hC.alloc _) hgA (fun q hq hq2 => by cases hq; have := (hGq _ hq2).2; omega))); (try (have hN4 := kept_ne hN hgA hNG)); (try (have hN4 := kept_ne (hN.alloc _) hgA hNG))) | (refine step_append_lies _ rfl (.tmp 34) (.tmp 37) 39 rfl (g7 + 1) 36 i0 _ 1 8 und_u64s hi hz0 hz1 hz2 rfl (by decide) (.slice U us.length cu) us.length (u64V us) rfl (by first | assumption | exact World.ownsRow.alloc (by assumption) _) _ nw.length _ (u64V nw) rfl (by simp) (own_cells (by first | assumption | exact World.ownsRow.alloc (by assumption) _)) (by simp [Value.oneCell']) hnw1 (by unfold maxLen; omega) (by omega) (by first | (have hq := hF6.size; simp; omega) | (have hq := hF4.size; simp; omega) | (have hq := hF2.size; simp; omega) | (have hq := hF0.size; simp; omega) | (simp; omega)) _ rfl ?_; intro gn cn w6 hN hgN hliN hltN; have hNl := lie_low (b := w'.heap.size) hliN (by first | (have hq := hF4.size; simp; omega) | (have hq := hF2.size; simp; omega)); have hNG := lie_ne (n := us.length + nw.length) (c := cn) hNl hUG (fun q hq => (hGq q hq).2); (try (have hA6 := kept_ne hA hgN hAU)); (try (have hA6 := kept_ne hA2 hgN hAU)); (try (have hne6 : ga ≠ gn := Ne.symm (lie_apart hliN hAl (by first | exact hltA | exact Nat.lt_of_lt_of_le hltA hb2.size | (simp; omega)) hUG (fun q hq => (hUq q hq).2)))); have hF6 : Below (g7 + 1) w' w6 := fr_grown (by first | assumption | exact hFa _ _ (by assumption)) hgN (fun q hq => (hUq q hq).1) hg7w; obtain ⟨f10, f11, f12, f13⟩ := HL w6 hF6; (try (have hG6 : w6.ownsRow (g7 + 1) 36 1 (.slice G j cg) j (natL gs) := kept_ne (by first | assumption | exact World.ownsRow.alloc (by assumption) _) hgN hGU)); (try (have eE6 : w6.heap[w'.heap.size]? = some (.cells #[.int .u64 Gt] 36 (0, 0)) := cell_kept eE hgN (fun e => by have := (hUq _ e).2; omega))); (try (have eE6 := cell_kept (heap_alloc_new w2 (.cells #[.int .u64 Gt] 36)) hgN (fun e => by have := (hUq _ e).2; have := hF2.size; omega)))))
                refine hK.out _ _ (by (try dsimp only); (first | with_reducible assumption | (refine HK _ ?_; first | exact Below.mono (by assumption) (Nat.le_succ g7) | exact Below.mono (hFa _ _ (by assumption)) (Nat.le_succ g7) | exact (Below.mono (by assumption) (Nat.le_succ g7)).setCell (Nat.le_refl _) _ | exact ((Below.mono (by assumption) (Nat.le_succ g7)).setCell (Nat.le_refl _) _).setCell (Nat.le_refl _) _))) (fun hHeld41 => ?_)
                clear hK K hHeld40
                try simp only [Act.put, List.setIfInBounds_toArray, List.set_cons_zero, List.set_cons_succ]
                refine held_take (i := 17) (v := ?_) (by rfl) (by kernel_rfl) (by kernel_rfl) (by kernel_rfl) (fun _ _ _ h => h) (Or.inl ⟨by rfl, ?_⟩) hHeld41 ?_
                rotate_left
                · (intro w hSw; (try dsimp only at hSw); go_simp; try with_reducible rfl)
                try simp only [Act.put, List.setIfInBounds_toArray, List.set_cons_zero, List.set_cons_succ]
                refine wpAnyH_ready (rs := [15]) (by kernel_rfl) (by simp) ?_
                refine held_cons (by rfl) (fun K hK => ?_) ?_
                · go_simp
                  (first | (go_at_call 56; refine (HNew.out _ (hwF _ (by first | assumption | exact hFa _ _ (by assumption)))).mono ?_; rintro e w2 ⟨rfl, hC, hb2⟩; have hCs := call_size (g7 := g7) (Y := w') (by first | assumption | exact hFa _ _ (by assumption)) hb2; have hF2 : Below (g7 + 1) w' w2 := fr_call (by first | assumption | exact hFa _ _ (by assumption)) hb2 hg7w; obtain ⟨c10, c11, c12, c13⟩ := HL w2 hF2; (try (have hG2 : w2.ownsRow (g7 + 1) 36 1 (.slice G j cg) j (natL gs) := own_below (by first | assumption | exact World.ownsRow.alloc (by assumption) _) hb2)); (try (have hU2 : w2.ownsRow (g7 + 1) 36 1 (.slice U us.length cu) us.length (u64V us) := own_below (by first | assumption | exact World.ownsRow.alloc (by assumption) _) hb2)); (try (have eE : w2.heap[w'.heap.size]? = some (.cells #[.int .u64 Gt] 36 (0, 0)) := (hb2.block w'.heap.size (by simp)).trans hEE)); (try (have hA2 := own_below hA hb2))) | (refine step_append_lies _ rfl (.tmp 23) (.tmp 31) 39 rfl (g7 + 1) 36 i0 _ 1 8 und_u64s hi hz0 hz1 hz2 rfl (by decide) (.slice G j cg) j (natL gs) rfl (by first | assumption | exact World.ownsRow.alloc (by assumption) _) _ 1 1 [.int .u64 Gt] rfl rfl (by first | exact cell_one_new _ _ _ | exact one_cell (by assumption)) (by simp [Value.oneCell']) (by omega) (by unfold maxLen; omega) (by omega) (by first | (have hq := hF6.size; simp; omega) | (have hq := hF4.size; simp; omega) | (have hq := hF2.size; simp; omega) | (have hq := hF0.size; simp; omega) | (simp; omega)) _ rfl ?_; intro ga ca w4 hA hgA hliA hltA; have hAl := lie_low (b := w'.heap.size) hliA (by first | (have hq := hF6.size; simp; omega) | (have hq := hF2.size; simp; omega) | simp); have hAU := lie_ne (n := j + 1) (c := ca) hAl hGU (fun q hq => (hUq q hq).2); (try (have hne4 : ga ≠ gn := lie_apart hliA hNl (by first | exact hltN | (simp; omega)) hGU (fun q hq => (hGq q hq).2))); have hF4 : Below (g7 + 1) w' w4 := fr_grown (by first | assumption | exact hFa _ _ (by assumption)) hgA (fun q hq => (hGq q hq).1) hg7w; obtain ⟨d10, d11, d12, d13⟩ := HL w4 hF4; (try (have hU4 : w4.ownsRow (g7 + 1) 36 1 (.slice U us.length cu) us.length (u64V us) := kept_ne (by first | assumption | exact World.ownsRow.alloc (by assumption) _) hgA hUG)); (try (have hC4 := kept_ne hC hgA (fun q hq hq2 => by cases hq; have := (hGq _ hq2).2; omega))); (try (have hC4 := kept_ne (hC.alloc _) hgA (fun q hq hq2 => by cases hq; have := (hGq _ hq2).2; omega))); (try (have hN4 := kept_ne hN hgA hNG)); (try (have hN4 := kept_ne (hN.alloc _) hgA hNG))) | (refine step_append_lies _ rfl (.tmp 34) (.tmp 37) 39 rfl (g7 + 1) 36 i0 _ 1 8 und_u64s hi hz0 hz1 hz2 rfl (by decide) (.slice U us.length cu) us.length (u64V us) rfl (by first | assumption | exact World.ownsRow.alloc (by assumption) _) _ nw.length _ (u64V nw) rfl (by simp) (own_cells (by first | assumption | exact World.ownsRow.alloc (by assumption) _)) (by simp [Value.oneCell']) hnw1 (by unfold maxLen; omega) (by omega) (by first | (have hq := hF6.size; simp; omega) | (have hq := hF4.size; simp; omega) | (have hq := hF2.size; simp; omega) | (have hq := hF0.size; simp; omega) | (simp; omega)) _ rfl ?_; intro gn cn w6 hN hgN hliN hltN; have hNl := lie_low (b := w'.heap.size) hliN (by first | (have hq := hF4.size; simp; omega) | (have hq := hF2.size; simp; omega)); have hNG := lie_ne (n := us.length + nw.length) (c := cn) hNl hUG (fun q hq => (hGq q hq).2); (try (have hA6 := kept_ne hA hgN hAU)); (try (have hA6 := kept_ne hA2 hgN hAU)); (try (have hne6 : ga ≠ gn := Ne.symm (lie_apart hliN hAl (by first | exact hltA | exact Nat.lt_of_lt_of_le hltA hb2.size | (simp; omega)) hUG (fun q hq => (hUq q hq).2)))); have hF6 : Below (g7 + 1) w' w6 := fr_grown (by first | assumption | exact hFa _ _ (by assumption)) hgN (fun q hq => (hUq q hq).1) hg7w; obtain ⟨f10, f11, f12, f13⟩ := HL w6 hF6; (try (have hG6 : w6.ownsRow (g7 + 1) 36 1 (.slice G j cg) j (natL gs) := kept_ne (by first | assumption | exact World.ownsRow.alloc (by assumption) _) hgN hGU)); (try (have eE6 : w6.heap[w'.heap.size]? = some (.cells #[.int .u64 Gt] 36 (0, 0)) := cell_kept eE hgN (fun e => by have := (hUq _ e).2; omega))); (try (have eE6 := cell_kept (heap_alloc_new w2 (.cells #[.int .u64 Gt] 36)) hgN (fun e => by have := (hUq _ e).2; have := hF2.size; omega)))))
                  go_wp2_with fail
                  refine hK.out _ _ (by (try dsimp only); (first | with_reducible assumption | (refine HK _ ?_; first | exact Below.mono (by assumption) (Nat.le_succ g7) | exact Below.mono (hFa _ _ (by assumption)) (Nat.le_succ g7) | exact (Below.mono (by assumption) (Nat.le_succ g7)).setCell (Nat.le_refl _) _ | exact ((Below.mono (by assumption) (Nat.le_succ g7)).setCell (Nat.le_refl _) _).setCell (Nat.le_refl _) _))) (fun hHeld42 => ?_)
                  clear hK K hHeld41
                  try simp only [Act.put, List.setIfInBounds_toArray, List.set_cons_zero, List.set_cons_succ]
                  refine wpAnyH_ready (rs := [16]) (by kernel_rfl) (by simp) ?_
                  refine held_cons (by rfl) (fun K hK => ?_) ?_
                  · (first | (go_at_call 56; refine (HNew.out _ (hwF _ (by first | assumption | exact hFa _ _ (by assumption)))).mono ?_; rintro e w2 ⟨rfl, hC, hb2⟩; have hCs := call_size (g7 := g7) (Y := w') (by first | assumption | exact hFa _ _ (by assumption)) hb2; have hF2 : Below (g7 + 1) w' w2 := fr_call (by first | assumption | exact hFa _ _ (by assumption)) hb2 hg7w; obtain ⟨c10, c11, c12, c13⟩ := HL w2 hF2; (try (have hG2 : w2.ownsRow (g7 + 1) 36 1 (.slice G j cg) j (natL gs) := own_below (by first | assumption | exact World.ownsRow.alloc (by assumption) _) hb2)); (try (have hU2 : w2.ownsRow (g7 + 1) 36 1 (.slice U us.length cu) us.length (u64V us) := own_below (by first | assumption | exact World.ownsRow.alloc (by assumption) _) hb2)); (try (have eE : w2.heap[w'.heap.size]? = some (.cells #[.int .u64 Gt] 36 (0, 0)) := (hb2.block w'.heap.size (by simp)).trans hEE)); (try (have hA2 := own_below hA hb2))) | (refine step_append_lies _ rfl (.tmp 23) (.tmp 31) 39 rfl (g7 + 1) 36 i0 _ 1 8 und_u64s hi hz0 hz1 hz2 rfl (by decide) (.slice G j cg) j (natL gs) rfl (by first | assumption | exact World.ownsRow.alloc (by assumption) _) _ 1 1 [.int .u64 Gt] rfl rfl (by first | exact cell_one_new _ _ _ | exact one_cell (by assumption)) (by simp [Value.oneCell']) (by omega) (by unfold maxLen; omega) (by omega) (by first | (have hq := hF6.size; simp; omega) | (have hq := hF4.size; simp; omega) | (have hq := hF2.size; simp; omega) | (have hq := hF0.size; simp; omega) | (simp; omega)) _ rfl ?_; intro ga ca w4 hA hgA hliA hltA; have hAl := lie_low (b := w'.heap.size) hliA (by first | (have hq := hF6.size; simp; omega) | (have hq := hF2.size; simp; omega) | simp); have hAU := lie_ne (n := j + 1) (c := ca) hAl hGU (fun q hq => (hUq q hq).2); (try (have hne4 : ga ≠ gn := lie_apart hliA hNl (by first | exact hltN | (simp; omega)) hGU (fun q hq => (hGq q hq).2))); have hF4 : Below (g7 + 1) w' w4 := fr_grown (by first | assumption | exact hFa _ _ (by assumption)) hgA (fun q hq => (hGq q hq).1) hg7w; obtain ⟨d10, d11, d12, d13⟩ := HL w4 hF4; (try (have hU4 : w4.ownsRow (g7 + 1) 36 1 (.slice U us.length cu) us.length (u64V us) := kept_ne (by first | assumption | exact World.ownsRow.alloc (by assumption) _) hgA hUG)); (try (have hC4 := kept_ne hC hgA (fun q hq hq2 => by cases hq; have := (hGq _ hq2).2; omega))); (try (have hC4 := kept_ne (hC.alloc _) hgA (fun q hq hq2 => by cases hq; have := (hGq _ hq2).2; omega))); (try (have hN4 := kept_ne hN hgA hNG)); (try (have hN4 := kept_ne (hN.alloc _) hgA hNG))) | (refine step_append_lies _ rfl (.tmp 34) (.tmp 37) 39 rfl (g7 + 1) 36 i0 _ 1 8 und_u64s hi hz0 hz1 hz2 rfl (by decide) (.slice U us.length cu) us.length (u64V us) rfl (by first | assumption | exact World.ownsRow.alloc (by assumption) _) _ nw.length _ (u64V nw) rfl (by simp) (own_cells (by first | assumption | exact World.ownsRow.alloc (by assumption) _)) (by simp [Value.oneCell']) hnw1 (by unfold maxLen; omega) (by omega) (by first | (have hq := hF6.size; simp; omega) | (have hq := hF4.size; simp; omega) | (have hq := hF2.size; simp; omega) | (have hq := hF0.size; simp; omega) | (simp; omega)) _ rfl ?_; intro gn cn w6 hN hgN hliN hltN; have hNl := lie_low (b := w'.heap.size) hliN (by first | (have hq := hF4.size; simp; omega) | (have hq := hF2.size; simp; omega)); have hNG := lie_ne (n := us.length + nw.length) (c := cn) hNl hUG (fun q hq => (hGq q hq).2); (try (have hA6 := kept_ne hA hgN hAU)); (try (have hA6 := kept_ne hA2 hgN hAU)); (try (have hne6 : ga ≠ gn := Ne.symm (lie_apart hliN hAl (by first | exact hltA | exact Nat.lt_of_lt_of_le hltA hb2.size | (simp; omega)) hUG (fun q hq => (hUq q hq).2)))); have hF6 : Below (g7 + 1) w' w6 := fr_grown (by first | assumption | exact hFa _ _ (by assumption)) hgN (fun q hq => (hUq q hq).1) hg7w; obtain ⟨f10, f11, f12, f13⟩ := HL w6 hF6; (try (have hG6 : w6.ownsRow (g7 + 1) 36 1 (.slice G j cg) j (natL gs) := kept_ne (by first | assumption | exact World.ownsRow.alloc (by assumption) _) hgN hGU)); (try (have eE6 : w6.heap[w'.heap.size]? = some (.cells #[.int .u64 Gt] 36 (0, 0)) := cell_kept eE hgN (fun e => by have := (hUq _ e).2; omega))); (try (have eE6 := cell_kept (heap_alloc_new w2 (.cells #[.int .u64 Gt] 36)) hgN (fun e => by have := (hUq _ e).2; have := hF2.size; omega)))))
                    refine hK.out _ _ (by (try dsimp only); (first | with_reducible assumption | (refine HK _ ?_; first | exact Below.mono (by assumption) (Nat.le_succ g7) | exact Below.mono (hFa _ _ (by assumption)) (Nat.le_succ g7) | exact (Below.mono (by assumption) (Nat.le_succ g7)).setCell (Nat.le_refl _) _ | exact ((Below.mono (by assumption) (Nat.le_succ g7)).setCell (Nat.le_refl _) _).setCell (Nat.le_refl _) _))) (fun hHeld43 => ?_)
                    clear hK K hHeld42
                    try simp only [Act.put, List.setIfInBounds_toArray, List.set_cons_zero, List.set_cons_succ]
                    refine wpAnyH_ready (rs := [18]) (by kernel_rfl) (by simp) ?_
                    refine held_cons (by rfl) (fun K hK => ?_) ?_
                    · go_simp
                      refine hK.out _ _ (by (try dsimp only); (first | with_reducible assumption | (refine HK _ ?_; first | exact Below.mono (by assumption) (Nat.le_succ g7) | exact Below.mono (hFa _ _ (by assumption)) (Nat.le_succ g7) | exact (Below.mono (by assumption) (Nat.le_succ g7)).setCell (Nat.le_refl _) _ | exact ((Below.mono (by assumption) (Nat.le_succ g7)).setCell (Nat.le_refl _) _).setCell (Nat.le_refl _) _))) (fun hHeld44 => ?_)
                      clear hK K hHeld43
                      try simp only [Act.put, List.setIfInBounds_toArray, List.set_cons_zero, List.set_cons_succ]
                      refine held_take (i := 19) (v := ?_) (by rfl) (by kernel_rfl) (by kernel_rfl) (by kernel_rfl) (fun _ _ _ h => h) (Or.inl ⟨by rfl, ?_⟩) hHeld44 ?_
                      rotate_left
                      · (intro w hSw; (try dsimp only at hSw); go_simp; try with_reducible rfl)
                      try simp only [Act.put, List.setIfInBounds_toArray, List.set_cons_zero, List.set_cons_succ]
                      refine wpAnyH_ready (rs := [20]) (by kernel_rfl) (by simp) ?_
                      refine held_cons (by rfl) (fun K hK => ?_) ?_
                      · go_simp
                        refine hK.out _ _ (by (try dsimp only); (first | with_reducible assumption | (refine HK _ ?_; first | exact Below.mono (by assumption) (Nat.le_succ g7) | exact Below.mono (hFa _ _ (by assumption)) (Nat.le_succ g7) | exact (Below.mono (by assumption) (Nat.le_succ g7)).setCell (Nat.le_refl _) _ | exact ((Below.mono (by assumption) (Nat.le_succ g7)).setCell (Nat.le_refl _) _).setCell (Nat.le_refl _) _))) (fun hHeld45 => ?_)
                        clear hK K hHeld44
                        try simp only [Act.put, List.setIfInBounds_toArray, List.set_cons_zero, List.set_cons_succ]
                        refine wpAnyH_done (by kernel_rfl) ?_ _
                        refine NoPanic.normal ?_
                        clear hHeld45
                        have hgoal : Below (g7 + 1) w' w6 ∧ w6.ownsRow (g7 + 1) 36 1 (.slice (some ⟨ga, 0, none⟩) (j + 1) ca) (j + 1) (natL gs ++ [.int .u64 Gt]) ∧ w6.ownsRow (g7 + 1) 36 1 (.slice (some ⟨gn, 0, none⟩) (us.length + nw.length) cn) (us.length + nw.length) (u64V us ++ u64V nw) ∧ ga ≠ gn := ⟨hF6, by assumption, by assumption, by assumption⟩
                        obtain ⟨k1, k2, k3, k4⟩ := hgoal
                        have hg6 : w6.heap[g7]? = some (.cells #[.int .i64 0, .int .i64 0, .int .u64 0, .int .i64 0, .int .u64 0, .int .i64 0, .int .i64 0, .bool false, .int .i64 0, .int .u64 0, .slice G j cg, .slice U us.length cu] 41) := (k1.block _ (Nat.lt_succ_self _)).trans hT7
                        have hq2 := heap_setCell_same _ g7 11 _ _ (.slice (some ⟨gn, 0, none⟩) (us.length + nw.length) cn) (heap_setCell_same w6 g7 10 _ _ (.slice (some ⟨ga, 0, none⟩) (j + 1) ca) hg6)
                        have hga7 : g7 + 1 ≤ ga := (k2.lt ga rfl).1
                        have hgn7 : g7 + 1 ≤ gn := (k3.lt gn rfl).1
                        have hBz : Below g7 Z ((w6.setCell ⟨g7, 10, none⟩ (.slice (some ⟨ga, 0, none⟩) (j + 1) ca)).setCell ⟨g7, 11, none⟩ (.slice (some ⟨gn, 0, none⟩) (us.length + nw.length) cn)) :=
                          ((hbel.trans (k1.mono (Nat.le_succ g7))).setCell (Nat.le_refl g7) _).setCell (Nat.le_refl g7) _
                        have hoz : ∀ q : Nat, q ≠ g7 → ((w6.setCell ⟨g7, 10, none⟩ (.slice (some ⟨ga, 0, none⟩) (j + 1) ca)).setCell ⟨g7, 11, none⟩ (.slice (some ⟨gn, 0, none⟩) (us.length + nw.length) cn)).heap[q]? = w6.heap[q]? := fun q hq =>
                          (Below.heap_setCell _ ⟨g7, 11, none⟩ _ _ hq).trans (Below.heap_setCell w6 ⟨g7, 10, none⟩ _ _ hq)
                        generalize ((w6.setCell ⟨g7, 10, none⟩ (.slice (some ⟨ga, 0, none⟩) (j + 1) ca)).setCell ⟨g7, 11, none⟩ (.slice (some ⟨gn, 0, none⟩) (us.length + nw.length) cn)) = z at *
                        have hAz := own_keepAt k2 (w' := z) (fun q hq => by cases hq; exact hoz ga (by omega))
                        have hNz := own_keepAt k3 (w' := z) (fun q hq => by cases hq; exact hoz gn (by omega))
                        have HAz := hide hAz
                        have HNz := hide hNz
                        have Hq2 := hide hq2
                        have HBz := hide hBz
                        clear hAz hNz hq2 hBz hoz k1 k2 k3 hg6
                        go_wp2
                        go_roundw
                        case rel =>
                          refine ⟨j + 1, gs ++ [Gt], us ++ nw, some ⟨ga, 0, none⟩, ca, some ⟨gn, 0, none⟩, cn, by omega, by go_num, Hnx, by simp [hgs], by rw [List.length_append]; omega, HBz.out, ?_, ?_, ?_, ?_⟩
                          · rw [List.length_append]
                            simpa using Hq2.out
                          · rw [natL_snoc]
                            exact HAz.out
                          · rw [List.length_append]
                            simpa using HNz.out
                          · intro q hq hq2
                            cases hq
                            cases hq2
                            exact k4 rfl
                        case measure => simp [intOf]; omega
                      exact AllReadyH.nil
                    exact AllReadyH.nil
                  exact AllReadyH.nil
                exact AllReadyH.nil
              exact AllReadyH.nil
            exact AllReadyH.nil
          refine held_cons (by rfl) (fun K hK => ?_) ?_
          · go_simp
            refine hK.out _ _ (by (try dsimp only); (first | with_reducible assumption | (refine HK _ ?_; first | exact Below.mono (by assumption) (Nat.le_succ g7) | exact Below.mono (hFa _ _ (by assumption)) (Nat.le_succ g7) | exact (Below.mono (by assumption) (Nat.le_succ g7)).setCell (Nat.le_refl _) _ | exact ((Below.mono (by assumption) (Nat.le_succ g7)).setCell (Nat.le_refl _) _).setCell (Nat.le_refl _) _))) (fun hHeld46 => ?_)
            clear hK K hHeld27
            try simp only [Act.put, List.setIfInBounds_toArray, List.set_cons_zero, List.set_cons_succ]
            refine wpAnyH_ready (rs := [1]) (by kernel_rfl) (by simp) ?_
            refine held_cons (by rfl) (fun K hK => ?_) ?_
            · go_simp
              refine hK.out _ _ (by (try dsimp only); (first | with_reducible assumption | (refine HK _ ?_; first | exact Below.mono (by assumption) (Nat.le_succ g7) | exact Below.mono (hFa _ _ (by assumption)) (Nat.le_succ g7) | exact (Below.mono (by assumption) (Nat.le_succ g7)).setCell (Nat.le_refl _) _ | exact ((Below.mono (by assumption) (Nat.le_succ g7)).setCell (Nat.le_refl _) _).setCell (Nat.le_refl _) _))) (fun hHeld47 => ?_)
              clear hK K hHeld46
              try simp only [Act.put, List.setIfInBounds_toArray, List.set_cons_zero, List.set_cons_succ]
              refine wpAnyH_ready (rs := [10]) (by kernel_rfl) (by simp) ?_
              refine held_cons (by rfl) (fun K hK => ?_) ?_
              · (first | (go_at_call 56; refine (HNew.out _ (hwF _ (by first | assumption | exact hFa _ _ (by assumption)))).mono ?_; rintro e w2 ⟨rfl, hC, hb2⟩; have hCs := call_size (g7 := g7) (Y := w') (by first | assumption | exact hFa _ _ (by assumption)) hb2; have hF2 : Below (g7 + 1) w' w2 := fr_call (by first | assumption | exact hFa _ _ (by assumption)) hb2 hg7w; obtain ⟨c10, c11, c12, c13⟩ := HL w2 hF2; (try (have hG2 : w2.ownsRow (g7 + 1) 36 1 (.slice G j cg) j (natL gs) := own_below (by first | assumption | exact World.ownsRow.alloc (by assumption) _) hb2)); (try (have hU2 : w2.ownsRow (g7 + 1) 36 1 (.slice U us.length cu) us.length (u64V us) := own_below (by first | assumption | exact World.ownsRow.alloc (by assumption) _) hb2)); (try (have eE : w2.heap[w'.heap.size]? = some (.cells #[.int .u64 Gt] 36 (0, 0)) := (hb2.block w'.heap.size (by simp)).trans hEE)); (try (have hA2 := own_below hA hb2))) | (refine step_append_lies _ rfl (.tmp 23) (.tmp 31) 39 rfl (g7 + 1) 36 i0 _ 1 8 und_u64s hi hz0 hz1 hz2 rfl (by decide) (.slice G j cg) j (natL gs) rfl (by first | assumption | exact World.ownsRow.alloc (by assumption) _) _ 1 1 [.int .u64 Gt] rfl rfl (by first | exact cell_one_new _ _ _ | exact one_cell (by assumption)) (by simp [Value.oneCell']) (by omega) (by unfold maxLen; omega) (by omega) (by first | (have hq := hF6.size; simp; omega) | (have hq := hF4.size; simp; omega) | (have hq := hF2.size; simp; omega) | (have hq := hF0.size; simp; omega) | (simp; omega)) _ rfl ?_; intro ga ca w4 hA hgA hliA hltA; have hAl := lie_low (b := w'.heap.size) hliA (by first | (have hq := hF6.size; simp; omega) | (have hq := hF2.size; simp; omega) | simp); have hAU := lie_ne (n := j + 1) (c := ca) hAl hGU (fun q hq => (hUq q hq).2); (try (have hne4 : ga ≠ gn := lie_apart hliA hNl (by first | exact hltN | (simp; omega)) hGU (fun q hq => (hGq q hq).2))); have hF4 : Below (g7 + 1) w' w4 := fr_grown (by first | assumption | exact hFa _ _ (by assumption)) hgA (fun q hq => (hGq q hq).1) hg7w; obtain ⟨d10, d11, d12, d13⟩ := HL w4 hF4; (try (have hU4 : w4.ownsRow (g7 + 1) 36 1 (.slice U us.length cu) us.length (u64V us) := kept_ne (by first | assumption | exact World.ownsRow.alloc (by assumption) _) hgA hUG)); (try (have hC4 := kept_ne hC hgA (fun q hq hq2 => by cases hq; have := (hGq _ hq2).2; omega))); (try (have hC4 := kept_ne (hC.alloc _) hgA (fun q hq hq2 => by cases hq; have := (hGq _ hq2).2; omega))); (try (have hN4 := kept_ne hN hgA hNG)); (try (have hN4 := kept_ne (hN.alloc _) hgA hNG))) | (refine step_append_lies _ rfl (.tmp 34) (.tmp 37) 39 rfl (g7 + 1) 36 i0 _ 1 8 und_u64s hi hz0 hz1 hz2 rfl (by decide) (.slice U us.length cu) us.length (u64V us) rfl (by first | assumption | exact World.ownsRow.alloc (by assumption) _) _ nw.length _ (u64V nw) rfl (by simp) (own_cells (by first | assumption | exact World.ownsRow.alloc (by assumption) _)) (by simp [Value.oneCell']) hnw1 (by unfold maxLen; omega) (by omega) (by first | (have hq := hF6.size; simp; omega) | (have hq := hF4.size; simp; omega) | (have hq := hF2.size; simp; omega) | (have hq := hF0.size; simp; omega) | (simp; omega)) _ rfl ?_; intro gn cn w6 hN hgN hliN hltN; have hNl := lie_low (b := w'.heap.size) hliN (by first | (have hq := hF4.size; simp; omega) | (have hq := hF2.size; simp; omega)); have hNG := lie_ne (n := us.length + nw.length) (c := cn) hNl hUG (fun q hq => (hGq q hq).2); (try (have hA6 := kept_ne hA hgN hAU)); (try (have hA6 := kept_ne hA2 hgN hAU)); (try (have hne6 : ga ≠ gn := Ne.symm (lie_apart hliN hAl (by first | exact hltA | exact Nat.lt_of_lt_of_le hltA hb2.size | (simp; omega)) hUG (fun q hq => (hUq q hq).2)))); have hF6 : Below (g7 + 1) w' w6 := fr_grown (by first | assumption | exact hFa _ _ (by assumption)) hgN (fun q hq => (hUq q hq).1) hg7w; obtain ⟨f10, f11, f12, f13⟩ := HL w6 hF6; (try (have hG6 : w6.ownsRow (g7 + 1) 36 1 (.slice G j cg) j (natL gs) := kept_ne (by first | assumption | exact World.ownsRow.alloc (by assumption) _) hgN hGU)); (try (have eE6 : w6.heap[w'.heap.size]? = some (.cells #[.int .u64 Gt] 36 (0, 0)) := cell_kept eE hgN (fun e => by have := (hUq _ e).2; omega))); (try (have eE6 := cell_kept (heap_alloc_new w2 (.cells #[.int .u64 Gt] 36)) hgN (fun e => by have := (hUq _ e).2; have := hF2.size; omega)))))
                refine hK.out _ _ (by (try dsimp only); (first | with_reducible assumption | (refine HK _ ?_; first | exact Below.mono (by assumption) (Nat.le_succ g7) | exact Below.mono (hFa _ _ (by assumption)) (Nat.le_succ g7) | exact (Below.mono (by assumption) (Nat.le_succ g7)).setCell (Nat.le_refl _) _ | exact ((Below.mono (by assumption) (Nat.le_succ g7)).setCell (Nat.le_refl _) _).setCell (Nat.le_refl _) _))) (fun hHeld48 => ?_)
                clear hK K hHeld47
                try simp only [Act.put, List.setIfInBounds_toArray, List.set_cons_zero, List.set_cons_succ]
                refine held_take (i := 17) (v := ?_) (by rfl) (by kernel_rfl) (by kernel_rfl) (by kernel_rfl) (fun _ _ _ h => h) (Or.inl ⟨by rfl, ?_⟩) hHeld48 ?_
                rotate_left
                · (intro w hSw; (try dsimp only at hSw); go_simp; try with_reducible rfl)
                try simp only [Act.put, List.setIfInBounds_toArray, List.set_cons_zero, List.set_cons_succ]
                refine wpAnyH_ready (rs := [15]) (by kernel_rfl) (by simp) ?_
                refine held_cons (by rfl) (fun K hK => ?_) ?_
                · go_simp
                  (first | (go_at_call 56; refine (HNew.out _ (hwF _ (by first | assumption | exact hFa _ _ (by assumption)))).mono ?_; rintro e w2 ⟨rfl, hC, hb2⟩; have hCs := call_size (g7 := g7) (Y := w') (by first | assumption | exact hFa _ _ (by assumption)) hb2; have hF2 : Below (g7 + 1) w' w2 := fr_call (by first | assumption | exact hFa _ _ (by assumption)) hb2 hg7w; obtain ⟨c10, c11, c12, c13⟩ := HL w2 hF2; (try (have hG2 : w2.ownsRow (g7 + 1) 36 1 (.slice G j cg) j (natL gs) := own_below (by first | assumption | exact World.ownsRow.alloc (by assumption) _) hb2)); (try (have hU2 : w2.ownsRow (g7 + 1) 36 1 (.slice U us.length cu) us.length (u64V us) := own_below (by first | assumption | exact World.ownsRow.alloc (by assumption) _) hb2)); (try (have eE : w2.heap[w'.heap.size]? = some (.cells #[.int .u64 Gt] 36 (0, 0)) := (hb2.block w'.heap.size (by simp)).trans hEE)); (try (have hA2 := own_below hA hb2))) | (refine step_append_lies _ rfl (.tmp 23) (.tmp 31) 39 rfl (g7 + 1) 36 i0 _ 1 8 und_u64s hi hz0 hz1 hz2 rfl (by decide) (.slice G j cg) j (natL gs) rfl (by first | assumption | exact World.ownsRow.alloc (by assumption) _) _ 1 1 [.int .u64 Gt] rfl rfl (by first | exact cell_one_new _ _ _ | exact one_cell (by assumption)) (by simp [Value.oneCell']) (by omega) (by unfold maxLen; omega) (by omega) (by first | (have hq := hF6.size; simp; omega) | (have hq := hF4.size; simp; omega) | (have hq := hF2.size; simp; omega) | (have hq := hF0.size; simp; omega) | (simp; omega)) _ rfl ?_; intro ga ca w4 hA hgA hliA hltA; have hAl := lie_low (b := w'.heap.size) hliA (by first | (have hq := hF6.size; simp; omega) | (have hq := hF2.size; simp; omega) | simp); have hAU := lie_ne (n := j + 1) (c := ca) hAl hGU (fun q hq => (hUq q hq).2); (try (have hne4 : ga ≠ gn := lie_apart hliA hNl (by first | exact hltN | (simp; omega)) hGU (fun q hq => (hGq q hq).2))); have hF4 : Below (g7 + 1) w' w4 := fr_grown (by first | assumption | exact hFa _ _ (by assumption)) hgA (fun q hq => (hGq q hq).1) hg7w; obtain ⟨d10, d11, d12, d13⟩ := HL w4 hF4; (try (have hU4 : w4.ownsRow (g7 + 1) 36 1 (.slice U us.length cu) us.length (u64V us) := kept_ne (by first | assumption | exact World.ownsRow.alloc (by assumption) _) hgA hUG)); (try (have hC4 := kept_ne hC hgA (fun q hq hq2 => by cases hq; have := (hGq _ hq2).2; omega))); (try (have hC4 := kept_ne (hC.alloc _) hgA (fun q hq hq2 => by cases hq; have := (hGq _ hq2).2; omega))); (try (have hN4 := kept_ne hN hgA hNG)); (try (have hN4 := kept_ne (hN.alloc _) hgA hNG))) | (refine step_append_lies _ rfl (.tmp 34) (.tmp 37) 39 rfl (g7 + 1) 36 i0 _ 1 8 und_u64s hi hz0 hz1 hz2 rfl (by decide) (.slice U us.length cu) us.length (u64V us) rfl (by first | assumption | exact World.ownsRow.alloc (by assumption) _) _ nw.length _ (u64V nw) rfl (by simp) (own_cells (by first | assumption | exact World.ownsRow.alloc (by assumption) _)) (by simp [Value.oneCell']) hnw1 (by unfold maxLen; omega) (by omega) (by first | (have hq := hF6.size; simp; omega) | (have hq := hF4.size; simp; omega) | (have hq := hF2.size; simp; omega) | (have hq := hF0.size; simp; omega) | (simp; omega)) _ rfl ?_; intro gn cn w6 hN hgN hliN hltN; have hNl := lie_low (b := w'.heap.size) hliN (by first | (have hq := hF4.size; simp; omega) | (have hq := hF2.size; simp; omega)); have hNG := lie_ne (n := us.length + nw.length) (c := cn) hNl hUG (fun q hq => (hGq q hq).2); (try (have hA6 := kept_ne hA hgN hAU)); (try (have hA6 := kept_ne hA2 hgN hAU)); (try (have hne6 : ga ≠ gn := Ne.symm (lie_apart hliN hAl (by first | exact hltA | exact Nat.lt_of_lt_of_le hltA hb2.size | (simp; omega)) hUG (fun q hq => (hUq q hq).2)))); have hF6 : Below (g7 + 1) w' w6 := fr_grown (by first | assumption | exact hFa _ _ (by assumption)) hgN (fun q hq => (hUq q hq).1) hg7w; obtain ⟨f10, f11, f12, f13⟩ := HL w6 hF6; (try (have hG6 : w6.ownsRow (g7 + 1) 36 1 (.slice G j cg) j (natL gs) := kept_ne (by first | assumption | exact World.ownsRow.alloc (by assumption) _) hgN hGU)); (try (have eE6 : w6.heap[w'.heap.size]? = some (.cells #[.int .u64 Gt] 36 (0, 0)) := cell_kept eE hgN (fun e => by have := (hUq _ e).2; omega))); (try (have eE6 := cell_kept (heap_alloc_new w2 (.cells #[.int .u64 Gt] 36)) hgN (fun e => by have := (hUq _ e).2; have := hF2.size; omega)))))
                  go_wp2_with fail
                  refine hK.out _ _ (by (try dsimp only); (first | with_reducible assumption | (refine HK _ ?_; first | exact Below.mono (by assumption) (Nat.le_succ g7) | exact Below.mono (hFa _ _ (by assumption)) (Nat.le_succ g7) | exact (Below.mono (by assumption) (Nat.le_succ g7)).setCell (Nat.le_refl _) _ | exact ((Below.mono (by assumption) (Nat.le_succ g7)).setCell (Nat.le_refl _) _).setCell (Nat.le_refl _) _))) (fun hHeld49 => ?_)
                  clear hK K hHeld48
                  try simp only [Act.put, List.setIfInBounds_toArray, List.set_cons_zero, List.set_cons_succ]
                  refine wpAnyH_ready (rs := [16]) (by kernel_rfl) (by simp) ?_
                  refine held_cons (by rfl) (fun K hK => ?_) ?_
                  · (first | (go_at_call 56; refine (HNew.out _ (hwF _ (by first | assumption | exact hFa _ _ (by assumption)))).mono ?_; rintro e w2 ⟨rfl, hC, hb2⟩; have hCs := call_size (g7 := g7) (Y := w') (by first | assumption | exact hFa _ _ (by assumption)) hb2; have hF2 : Below (g7 + 1) w' w2 := fr_call (by first | assumption | exact hFa _ _ (by assumption)) hb2 hg7w; obtain ⟨c10, c11, c12, c13⟩ := HL w2 hF2; (try (have hG2 : w2.ownsRow (g7 + 1) 36 1 (.slice G j cg) j (natL gs) := own_below (by first | assumption | exact World.ownsRow.alloc (by assumption) _) hb2)); (try (have hU2 : w2.ownsRow (g7 + 1) 36 1 (.slice U us.length cu) us.length (u64V us) := own_below (by first | assumption | exact World.ownsRow.alloc (by assumption) _) hb2)); (try (have eE : w2.heap[w'.heap.size]? = some (.cells #[.int .u64 Gt] 36 (0, 0)) := (hb2.block w'.heap.size (by simp)).trans hEE)); (try (have hA2 := own_below hA hb2))) | (refine step_append_lies _ rfl (.tmp 23) (.tmp 31) 39 rfl (g7 + 1) 36 i0 _ 1 8 und_u64s hi hz0 hz1 hz2 rfl (by decide) (.slice G j cg) j (natL gs) rfl (by first | assumption | exact World.ownsRow.alloc (by assumption) _) _ 1 1 [.int .u64 Gt] rfl rfl (by first | exact cell_one_new _ _ _ | exact one_cell (by assumption)) (by simp [Value.oneCell']) (by omega) (by unfold maxLen; omega) (by omega) (by first | (have hq := hF6.size; simp; omega) | (have hq := hF4.size; simp; omega) | (have hq := hF2.size; simp; omega) | (have hq := hF0.size; simp; omega) | (simp; omega)) _ rfl ?_; intro ga ca w4 hA hgA hliA hltA; have hAl := lie_low (b := w'.heap.size) hliA (by first | (have hq := hF6.size; simp; omega) | (have hq := hF2.size; simp; omega) | simp); have hAU := lie_ne (n := j + 1) (c := ca) hAl hGU (fun q hq => (hUq q hq).2); (try (have hne4 : ga ≠ gn := lie_apart hliA hNl (by first | exact hltN | (simp; omega)) hGU (fun q hq => (hGq q hq).2))); have hF4 : Below (g7 + 1) w' w4 := fr_grown (by first | assumption | exact hFa _ _ (by assumption)) hgA (fun q hq => (hGq q hq).1) hg7w; obtain ⟨d10, d11, d12, d13⟩ := HL w4 hF4; (try (have hU4 : w4.ownsRow (g7 + 1) 36 1 (.slice U us.length cu) us.length (u64V us) := kept_ne (by first | assumption | exact World.ownsRow.alloc (by assumption) _) hgA hUG)); (try (have hC4 := kept_ne hC hgA (fun q hq hq2 => by cases hq; have := (hGq _ hq2).2; omega))); (try (have hC4 := kept_ne (hC.alloc _) hgA (fun q hq hq2 => by cases hq; have := (hGq _ hq2).2; omega))); (try (have hN4 := kept_ne hN hgA hNG)); (try (have hN4 := kept_ne (hN.alloc _) hgA hNG))) | (refine step_append_lies _ rfl (.tmp 34) (.tmp 37) 39 rfl (g7 + 1) 36 i0 _ 1 8 und_u64s hi hz0 hz1 hz2 rfl (by decide) (.slice U us.length cu) us.length (u64V us) rfl (by first | assumption | exact World.ownsRow.alloc (by assumption) _) _ nw.length _ (u64V nw) rfl (by simp) (own_cells (by first | assumption | exact World.ownsRow.alloc (by assumption) _)) (by simp [Value.oneCell']) hnw1 (by unfold maxLen; omega) (by omega) (by first | (have hq := hF6.size; simp; omega) | (have hq := hF4.size; simp; omega) | (have hq := hF2.size; simp; omega) | (have hq := hF0.size; simp; omega) | (simp; omega)) _ rfl ?_; intro gn cn w6 hN hgN hliN hltN; have hNl := lie_low (b := w'.heap.size) hliN (by first | (have hq := hF4.size; simp; omega) | (have hq := hF2.size; simp; omega)); have hNG := lie_ne (n := us.length + nw.length) (c := cn) hNl hUG (fun q hq => (hGq q hq).2); (try (have hA6 := kept_ne hA hgN hAU)); (try (have hA6 := kept_ne hA2 hgN hAU)); (try (have hne6 : ga ≠ gn := Ne.symm (lie_apart hliN hAl (by first | exact hltA | exact Nat.lt_of_lt_of_le hltA hb2.size | (simp; omega)) hUG (fun q hq => (hUq q hq).2)))); have hF6 : Below (g7 + 1) w' w6 := fr_grown (by first | assumption | exact hFa _ _ (by assumption)) hgN (fun q hq => (hUq q hq).1) hg7w; obtain ⟨f10, f11, f12, f13⟩ := HL w6 hF6; (try (have hG6 : w6.ownsRow (g7 + 1) 36 1 (.slice G j cg) j (natL gs) := kept_ne (by first | assumption | exact World.ownsRow.alloc (by assumption) _) hgN hGU)); (try (have eE6 : w6.heap[w'.heap.size]? = some (.cells #[.int .u64 Gt] 36 (0, 0)) := cell_kept eE hgN (fun e => by have := (hUq _ e).2; omega))); (try (have eE6 := cell_kept (heap_alloc_new w2 (.cells #[.int .u64 Gt] 36)) hgN (fun e => by have := (hUq _ e).2; have := hF2.size; omega)))))
                    refine hK.out _ _ (by (try dsimp only); (first | with_reducible assumption | (refine HK _ ?_; first | exact Below.mono (by assumption) (Nat.le_succ g7) | exact Below.mono (hFa _ _ (by assumption)) (Nat.le_succ g7) | exact (Below.mono (by assumption) (Nat.le_succ g7)).setCell (Nat.le_refl _) _ | exact ((Below.mono (by assumption) (Nat.le_succ g7)).setCell (Nat.le_refl _) _).setCell (Nat.le_refl _) _))) (fun hHeld50 => ?_)
                    clear hK K hHeld49
                    try simp only [Act.put, List.setIfInBounds_toArray, List.set_cons_zero, List.set_cons_succ]
                    refine wpAnyH_ready (rs := [18]) (by kernel_rfl) (by simp) ?_
                    refine held_cons (by rfl) (fun K hK => ?_) ?_
                    · go_simp
                      refine hK.out _ _ (by (try dsimp only); (first | with_reducible assumption | (refine HK _ ?_; first | exact Below.mono (by assumption) (Nat.le_succ g7) | exact Below.mono (hFa _ _ (by assumption)) (Nat.le_succ g7) | exact (Below.mono (by assumption) (Nat.le_succ g7)).setCell (Nat.le_refl _) _ | exact ((Below.mono (by assumption) (Nat.le_succ g7)).setCell (Nat.le_refl _) _).setCell (Nat.le_refl _) _))) (fun hHeld51 => ?_)
                      clear hK K hHeld50
                      try simp only [Act.put, List.setIfInBounds_toArray, List.set_cons_zero, List.set_cons_succ]
                      refine held_take (i := 19) (v := ?_) (by rfl) (by kernel_rfl) (by kernel_rfl) (by kernel_rfl) (fun _ _ _ h => h) (Or.inl ⟨by rfl, ?_⟩) hHeld51 ?_
                      rotate_left
                      · (intro w hSw; (try dsimp only at hSw); go_simp; try with_reducible rfl)
                      try simp only [Act.put, List.setIfInBounds_toArray, List.set_cons_zero, List.set_cons_succ]
                      refine wpAnyH_ready (rs := [20]) (by kernel_rfl) (by simp) ?_
                      refine held_cons (by rfl) (fun K hK => ?_) ?_
                      · go_simp
                        refine hK.out _ _ (by (try dsimp only); (first | with_reducible assumption | (refine HK _ ?_; first | exact Below.mono (by assumption) (Nat.le_succ g7) | exact Below.mono (hFa _ _ (by assumption)) (Nat.le_succ g7) | exact (Below.mono (by assumption) (Nat.le_succ g7)).setCell (Nat.le_refl _) _ | exact ((Below.mono (by assumption) (Nat.le_succ g7)).setCell (Nat.le_refl _) _).setCell (Nat.le_refl _) _))) (fun hHeld52 => ?_)
                        clear hK K hHeld51
                        try simp only [Act.put, List.setIfInBounds_toArray, List.set_cons_zero, List.set_cons_succ]
                        refine wpAnyH_done (by kernel_rfl) ?_ _
                        refine NoPanic.normal ?_
                        clear hHeld52
                        have hgoal : Below (g7 + 1) w' w6 ∧ w6.ownsRow (g7 + 1) 36 1 (.slice (some ⟨ga, 0, none⟩) (j + 1) ca) (j + 1) (natL gs ++ [.int .u64 Gt]) ∧ w6.ownsRow (g7 + 1) 36 1 (.slice (some ⟨gn, 0, none⟩) (us.length + nw.length) cn) (us.length + nw.length) (u64V us ++ u64V nw) ∧ ga ≠ gn := ⟨hF6, by assumption, by assumption, by assumption⟩
                        obtain ⟨k1, k2, k3, k4⟩ := hgoal
                        have hg6 : w6.heap[g7]? = some (.cells #[.int .i64 0, .int .i64 0, .int .u64 0, .int .i64 0, .int .u64 0, .int .i64 0, .int .i64 0, .bool false, .int .i64 0, .int .u64 0, .slice G j cg, .slice U us.length cu] 41) := (k1.block _ (Nat.lt_succ_self _)).trans hT7
                        have hq2 := heap_setCell_same _ g7 11 _ _ (.slice (some ⟨gn, 0, none⟩) (us.length + nw.length) cn) (heap_setCell_same w6 g7 10 _ _ (.slice (some ⟨ga, 0, none⟩) (j + 1) ca) hg6)
                        have hga7 : g7 + 1 ≤ ga := (k2.lt ga rfl).1
                        have hgn7 : g7 + 1 ≤ gn := (k3.lt gn rfl).1
                        have hBz : Below g7 Z ((w6.setCell ⟨g7, 10, none⟩ (.slice (some ⟨ga, 0, none⟩) (j + 1) ca)).setCell ⟨g7, 11, none⟩ (.slice (some ⟨gn, 0, none⟩) (us.length + nw.length) cn)) :=
                          ((hbel.trans (k1.mono (Nat.le_succ g7))).setCell (Nat.le_refl g7) _).setCell (Nat.le_refl g7) _
                        have hoz : ∀ q : Nat, q ≠ g7 → ((w6.setCell ⟨g7, 10, none⟩ (.slice (some ⟨ga, 0, none⟩) (j + 1) ca)).setCell ⟨g7, 11, none⟩ (.slice (some ⟨gn, 0, none⟩) (us.length + nw.length) cn)).heap[q]? = w6.heap[q]? := fun q hq =>
                          (Below.heap_setCell _ ⟨g7, 11, none⟩ _ _ hq).trans (Below.heap_setCell w6 ⟨g7, 10, none⟩ _ _ hq)
                        generalize ((w6.setCell ⟨g7, 10, none⟩ (.slice (some ⟨ga, 0, none⟩) (j + 1) ca)).setCell ⟨g7, 11, none⟩ (.slice (some ⟨gn, 0, none⟩) (us.length + nw.length) cn)) = z at *
                        have hAz := own_keepAt k2 (w' := z) (fun q hq => by cases hq; exact hoz ga (by omega))
                        have hNz := own_keepAt k3 (w' := z) (fun q hq => by cases hq; exact hoz gn (by omega))
                        have HAz := hide hAz
                        have HNz := hide hNz
                        have Hq2 := hide hq2
                        have HBz := hide hBz
                        clear hAz hNz hq2 hBz hoz k1 k2 k3 hg6
                        go_wp2
                        go_roundw
                        case rel =>
                          refine ⟨j + 1, gs ++ [Gt], us ++ nw, some ⟨ga, 0, none⟩, ca, some ⟨gn, 0, none⟩, cn, by omega, by go_num, Hnx, by simp [hgs], by rw [List.length_append]; omega, HBz.out, ?_, ?_, ?_, ?_⟩
                          · rw [List.length_append]
                            simpa using Hq2.out
                          · rw [natL_snoc]
                            exact HAz.out
                          · rw [List.length_append]
                            simpa using HNz.out
                          · intro q hq hq2
                            cases hq
                            cases hq2
                            exact k4 rfl
                        case measure => simp [intOf]; omega
                      exact AllReadyH.nil
                    exact AllReadyH.nil
                  exact AllReadyH.nil
                exact AllReadyH.nil
              exact AllReadyH.nil
            exact AllReadyH.nil
          exact AllReadyH.nil
        refine held_cons (by rfl) (fun K hK => ?_) ?_
        · go_simp
          refine hK.out _ _ (by (try dsimp only); (first | with_reducible assumption | (refine HK _ ?_; first | exact Below.mono (by assumption) (Nat.le_succ g7) | exact Below.mono (hFa _ _ (by assumption)) (Nat.le_succ g7) | exact (Below.mono (by assumption) (Nat.le_succ g7)).setCell (Nat.le_refl _) _ | exact ((Below.mono (by assumption) (Nat.le_succ g7)).setCell (Nat.le_refl _) _).setCell (Nat.le_refl _) _))) (fun hHeld53 => ?_)
          clear hK K hHeld0
          try simp only [Act.put, List.setIfInBounds_toArray, List.set_cons_zero, List.set_cons_succ]
          refine wpAnyH_ready (rs := [1, 9]) (by kernel_rfl) (by simp) ?_
          refine held_cons (by rfl) (fun K hK => ?_) ?_
          · go_simp
            refine hK.out _ _ (by (try dsimp only); (first | with_reducible assumption | (refine HK _ ?_; first | exact Below.mono (by assumption) (Nat.le_succ g7) | exact Below.mono (hFa _ _ (by assumption)) (Nat.le_succ g7) | exact (Below.mono (by assumption) (Nat.le_succ g7)).setCell (Nat.le_refl _) _ | exact ((Below.mono (by assumption) (Nat.le_succ g7)).setCell (Nat.le_refl _) _).setCell (Nat.le_refl _) _))) (fun hHeld54 => ?_)
            clear hK K hHeld53
            try simp only [Act.put, List.setIfInBounds_toArray, List.set_cons_zero, List.set_cons_succ]
            refine wpAnyH_ready (rs := [9]) (by kernel_rfl) (by simp) ?_
            refine held_cons (by rfl) (fun K hK => ?_) ?_
            · go_simp
              refine hK.out _ _ (by (try dsimp only); (first | with_reducible assumption | (refine HK _ ?_; first | exact Below.mono (by assumption) (Nat.le_succ g7) | exact Below.mono (hFa _ _ (by assumption)) (Nat.le_succ g7) | exact (Below.mono (by assumption) (Nat.le_succ g7)).setCell (Nat.le_refl _) _ | exact ((Below.mono (by assumption) (Nat.le_succ g7)).setCell (Nat.le_refl _) _).setCell (Nat.le_refl _) _))) (fun hHeld55 => ?_)
              clear hK K hHeld54
              try simp only [Act.put, List.setIfInBounds_toArray, List.set_cons_zero, List.set_cons_succ]
              refine wpAnyH_ready (rs := [10]) (by kernel_rfl) (by simp) ?_
              refine held_cons (by rfl) (fun K hK => ?_) ?_
              · (first | (go_at_call 56; refine (HNew.out _ (hwF _ (by first | assumption | exact hFa _ _ (by assumption)))).mono ?_; rintro e w2 ⟨rfl, hC, hb2⟩; have hCs := call_size (g7 := g7) (Y := w') (by first | assumption | exact hFa _ _ (by assumption)) hb2; have hF2 : Below (g7 + 1) w' w2 := fr_call (by first | assumption | exact hFa _ _ (by assumption)) hb2 hg7w; obtain ⟨c10, c11, c12, c13⟩ := HL w2 hF2; (try (have hG2 : w2.ownsRow (g7 + 1) 36 1 (.slice G j cg) j (natL gs) := own_below (by first | assumption | exact World.ownsRow.alloc (by assumption) _) hb2)); (try (have hU2 : w2.ownsRow (g7 + 1) 36 1 (.slice U us.length cu) us.length (u64V us) := own_below (by first | assumption | exact World.ownsRow.alloc (by assumption) _) hb2)); (try (have eE : w2.heap[w'.heap.size]? = some (.cells #[.int .u64 Gt] 36 (0, 0)) := (hb2.block w'.heap.size (by simp)).trans hEE)); (try (have hA2 := own_below hA hb2))) | (refine step_append_lies _ rfl (.tmp 23) (.tmp 31) 39 rfl (g7 + 1) 36 i0 _ 1 8 und_u64s hi hz0 hz1 hz2 rfl (by decide) (.slice G j cg) j (natL gs) rfl (by first | assumption | exact World.ownsRow.alloc (by assumption) _) _ 1 1 [.int .u64 Gt] rfl rfl (by first | exact cell_one_new _ _ _ | exact one_cell (by assumption)) (by simp [Value.oneCell']) (by omega) (by unfold maxLen; omega) (by omega) (by first | (have hq := hF6.size; simp; omega) | (have hq := hF4.size; simp; omega) | (have hq := hF2.size; simp; omega) | (have hq := hF0.size; simp; omega) | (simp; omega)) _ rfl ?_; intro ga ca w4 hA hgA hliA hltA; have hAl := lie_low (b := w'.heap.size) hliA (by first | (have hq := hF6.size; simp; omega) | (have hq := hF2.size; simp; omega) | simp); have hAU := lie_ne (n := j + 1) (c := ca) hAl hGU (fun q hq => (hUq q hq).2); (try (have hne4 : ga ≠ gn := lie_apart hliA hNl (by first | exact hltN | (simp; omega)) hGU (fun q hq => (hGq q hq).2))); have hF4 : Below (g7 + 1) w' w4 := fr_grown (by first | assumption | exact hFa _ _ (by assumption)) hgA (fun q hq => (hGq q hq).1) hg7w; obtain ⟨d10, d11, d12, d13⟩ := HL w4 hF4; (try (have hU4 : w4.ownsRow (g7 + 1) 36 1 (.slice U us.length cu) us.length (u64V us) := kept_ne (by first | assumption | exact World.ownsRow.alloc (by assumption) _) hgA hUG)); (try (have hC4 := kept_ne hC hgA (fun q hq hq2 => by cases hq; have := (hGq _ hq2).2; omega))); (try (have hC4 := kept_ne (hC.alloc _) hgA (fun q hq hq2 => by cases hq; have := (hGq _ hq2).2; omega))); (try (have hN4 := kept_ne hN hgA hNG)); (try (have hN4 := kept_ne (hN.alloc _) hgA hNG))) | (refine step_append_lies _ rfl (.tmp 34) (.tmp 37) 39 rfl (g7 + 1) 36 i0 _ 1 8 und_u64s hi hz0 hz1 hz2 rfl (by decide) (.slice U us.length cu) us.length (u64V us) rfl (by first | assumption | exact World.ownsRow.alloc (by assumption) _) _ nw.length _ (u64V nw) rfl (by simp) (own_cells (by first | assumption | exact World.ownsRow.alloc (by assumption) _)) (by simp [Value.oneCell']) hnw1 (by unfold maxLen; omega) (by omega) (by first | (have hq := hF6.size; simp; omega) | (have hq := hF4.size; simp; omega) | (have hq := hF2.size; simp; omega) | (have hq := hF0.size; simp; omega) | (simp; omega)) _ rfl ?_; intro gn cn w6 hN hgN hliN hltN; have hNl := lie_low (b := w'.heap.size) hliN (by first | (have hq := hF4.size; simp; omega) | (have hq := hF2.size; simp; omega)); have hNG := lie_ne (n := us.length + nw.length) (c := cn) hNl hUG (fun q hq => (hGq q hq).2); (try (have hA6 := kept_ne hA hgN hAU)); (try (have hA6 := kept_ne hA2 hgN hAU)); (try (have hne6 : ga ≠ gn := Ne.symm (lie_apart hliN hAl (by first | exact hltA | exact Nat.lt_of_lt_of_le hltA hb2.size | (simp; omega)) hUG (fun q hq => (hUq q hq).2)))); have hF6 : Below (g7 + 1) w' w6 := fr_grown (by first | assumption | exact hFa _ _ (by assumption)) hgN (fun q hq => (hUq q hq).1) hg7w; obtain ⟨f10, f11, f12, f13⟩ := HL w6 hF6; (try (have hG6 : w6.ownsRow (g7 + 1) 36 1 (.slice G j cg) j (natL gs) := kept_ne (by first | assumption | exact World.ownsRow.alloc (by assumption) _) hgN hGU)); (try (have eE6 : w6.heap[w'.heap.size]? = some (.cells #[.int .u64 Gt] 36 (0, 0)) := cell_kept eE hgN (fun e => by have := (hUq _ e).2; omega))); (try (have eE6 := cell_kept (heap_alloc_new w2 (.cells #[.int .u64 Gt] 36)) hgN (fun e => by have := (hUq _ e).2; have := hF2.size; omega)))))
                refine hK.out _ _ (by (try dsimp only); (first | with_reducible assumption | (refine HK _ ?_; first | exact Below.mono (by assumption) (Nat.le_succ g7) | exact Below.mono (hFa _ _ (by assumption)) (Nat.le_succ g7) | exact (Below.mono (by assumption) (Nat.le_succ g7)).setCell (Nat.le_refl _) _ | exact ((Below.mono (by assumption) (Nat.le_succ g7)).setCell (Nat.le_refl _) _).setCell (Nat.le_refl _) _))) (fun hHeld56 => ?_)
                clear hK K hHeld55
                try simp only [Act.put, List.setIfInBounds_toArray, List.set_cons_zero, List.set_cons_succ]
                refine held_take (i := 17) (v := ?_) (by rfl) (by kernel_rfl) (by kernel_rfl) (by kernel_rfl) (fun _ _ _ h => h) (Or.inl ⟨by rfl, ?_⟩) hHeld56 ?_
                rotate_left
                · (intro w hSw; (try dsimp only at hSw); go_simp; try with_reducible rfl)
                try simp only [Act.put, List.setIfInBounds_toArray, List.set_cons_zero, List.set_cons_succ]
                refine wpAnyH_ready (rs := [15]) (by kernel_rfl) (by simp) ?_
                refine held_cons (by rfl) (fun K hK => ?_) ?_
                · go_simp
                  (first | (go_at_call 56; refine (HNew.out _ (hwF _ (by first | assumption | exact hFa _ _ (by assumption)))).mono ?_; rintro e w2 ⟨rfl, hC, hb2⟩; have hCs := call_size (g7 := g7) (Y := w') (by first | assumption | exact hFa _ _ (by assumption)) hb2; have hF2 : Below (g7 + 1) w' w2 := fr_call (by first | assumption | exact hFa _ _ (by assumption)) hb2 hg7w; obtain ⟨c10, c11, c12, c13⟩ := HL w2 hF2; (try (have hG2 : w2.ownsRow (g7 + 1) 36 1 (.slice G j cg) j (natL gs) := own_below (by first | assumption | exact World.ownsRow.alloc (by assumption) _) hb2)); (try (have hU2 : w2.ownsRow (g7 + 1) 36 1 (.slice U us.length cu) us.length (u64V us) := own_below (by first | assumption | exact World.ownsRow.alloc (by assumption) _) hb2)); (try (have eE : w2.heap[w'.heap.size]? = some (.cells #[.int .u64 Gt] 36 (0, 0)) := (hb2.block w'.heap.size (by simp)).trans hEE)); (try (have hA2 := own_below hA hb2))) | (refine step_append_lies _ rfl (.tmp 23) (.tmp 31) 39 rfl (g7 + 1) 36 i0 _ 1 8 und_u64s hi hz0 hz1 hz2 rfl (by decide) (.slice G j cg) j (natL gs) rfl (by first | assumption | exact World.ownsRow.alloc (by assumption) _) _ 1 1 [.int .u64 Gt] rfl rfl (by first | exact cell_one_new _ _ _ | exact one_cell (by assumption)) (by simp [Value.oneCell']) (by omega) (by unfold maxLen; omega) (by omega) (by first | (have hq := hF6.size; simp; omega) | (have hq := hF4.size; simp; omega) | (have hq := hF2.size; simp; omega) | (have hq := hF0.size; simp; omega) | (simp; omega)) _ rfl ?_; intro ga ca w4 hA hgA hliA hltA; have hAl := lie_low (b := w'.heap.size) hliA (by first | (have hq := hF6.size; simp; omega) | (have hq := hF2.size; simp; omega) | simp); have hAU := lie_ne (n := j + 1) (c := ca) hAl hGU (fun q hq => (hUq q hq).2); (try (have hne4 : ga ≠ gn := lie_apart hliA hNl (by first | exact hltN | (simp; omega)) hGU (fun q hq => (hGq q hq).2))); have hF4 : Below (g7 + 1) w' w4 := fr_grown (by first | assumption | exact hFa _ _ (by assumption)) hgA (fun q hq => (hGq q hq).1) hg7w; obtain ⟨d10, d11, d12, d13⟩ := HL w4 hF4; (try (have hU4 : w4.ownsRow (g7 + 1) 36 1 (.slice U us.length cu) us.length (u64V us) := kept_ne (by first | assumption | exact World.ownsRow.alloc (by assumption) _) hgA hUG)); (try (have hC4 := kept_ne hC hgA (fun q hq hq2 => by cases hq; have := (hGq _ hq2).2; omega))); (try (have hC4 := kept_ne (hC.alloc _) hgA (fun q hq hq2 => by cases hq; have := (hGq _ hq2).2; omega))); (try (have hN4 := kept_ne hN hgA hNG)); (try (have hN4 := kept_ne (hN.alloc _) hgA hNG))) | (refine step_append_lies _ rfl (.tmp 34) (.tmp 37) 39 rfl (g7 + 1) 36 i0 _ 1 8 und_u64s hi hz0 hz1 hz2 rfl (by decide) (.slice U us.length cu) us.length (u64V us) rfl (by first | assumption | exact World.ownsRow.alloc (by assumption) _) _ nw.length _ (u64V nw) rfl (by simp) (own_cells (by first | assumption | exact World.ownsRow.alloc (by assumption) _)) (by simp [Value.oneCell']) hnw1 (by unfold maxLen; omega) (by omega) (by first | (have hq := hF6.size; simp; omega) | (have hq := hF4.size; simp; omega) | (have hq := hF2.size; simp; omega) | (have hq := hF0.size; simp; omega) | (simp; omega)) _ rfl ?_; intro gn cn w6 hN hgN hliN hltN; have hNl := lie_low (b := w'.heap.size) hliN (by first | (have hq := hF4.size; simp; omega) | (have hq := hF2.size; simp; omega)); have hNG := lie_ne (n := us.length + nw.length) (c := cn) hNl hUG (fun q hq => (hGq q hq).2); (try (have hA6 := kept_ne hA hgN hAU)); (try (have hA6 := kept_ne hA2 hgN hAU)); (try (have hne6 : ga ≠ gn := Ne.symm (lie_apart hliN hAl (by first | exact hltA | exact Nat.lt_of_lt_of_le hltA hb2.size | (simp; omega)) hUG (fun q hq => (hUq q hq).2)))); have hF6 : Below (g7 + 1) w' w6 := fr_grown (by first | assumption | exact hFa _ _ (by assumption)) hgN (fun q hq => (hUq q hq).1) hg7w; obtain ⟨f10, f11, f12, f13⟩ := HL w6 hF6; (try (have hG6 : w6.ownsRow (g7 + 1) 36 1 (.slice G j cg) j (natL gs) := kept_ne (by first | assumption | exact World.ownsRow.alloc (by assumption) _) hgN hGU)); (try (have eE6 : w6.heap[w'.heap.size]? = some (.cells #[.int .u64 Gt] 36 (0, 0)) := cell_kept eE hgN (fun e => by have := (hUq _ e).2; omega))); (try (have eE6 := cell_kept (heap_alloc_new w2 (.cells #[.int .u64 Gt] 36)) hgN (fun e => by have := (hUq _ e).2; have := hF2.size; omega)))))
                  go_wp2_with fail
                  refine hK.out _ _ (by (try dsimp only); (first | with_reducible assumption | (refine HK _ ?_; first | exact Below.mono (by assumption) (Nat.le_succ g7) | exact Below.mono (hFa _ _ (by assumption)) (Nat.le_succ g7) | exact (Below.mono (by assumption) (Nat.le_succ g7)).setCell (Nat.le_refl _) _ | exact ((Below.mono (by assumption) (Nat.le_succ g7)).setCell (Nat.le_refl _) _).setCell (Nat.le_refl _) _))) (fun hHeld57 => ?_)
                  clear hK K hHeld56
                  try simp only [Act.put, List.setIfInBounds_toArray, List.set_cons_zero, List.set_cons_succ]
                  refine wpAnyH_ready (rs := [16]) (by kernel_rfl) (by simp) ?_
                  refine held_cons (by rfl) (fun K hK => ?_) ?_
                  · (first | (go_at_call 56; refine (HNew.out _ (hwF _ (by first | assumption | exact hFa _ _ (by assumption)))).mono ?_; rintro e w2 ⟨rfl, hC, hb2⟩; have hCs := call_size (g7 := g7) (Y := w') (by first | assumption | exact hFa _ _ (by assumption)) hb2; have hF2 : Below (g7 + 1) w' w2 := fr_call (by first | assumption | exact hFa _ _ (by assumption)) hb2 hg7w; obtain ⟨c10, c11, c12, c13⟩ := HL w2 hF2; (try (have hG2 : w2.ownsRow (g7 + 1) 36 1 (.slice G j cg) j (natL gs) := own_below (by first | assumption | exact World.ownsRow.alloc (by assumption) _) hb2)); (try (have hU2 : w2.ownsRow (g7 + 1) 36 1 (.slice U us.length cu) us.length (u64V us) := own_below (by first | assumption | exact World.ownsRow.alloc (by assumption) _) hb2)); (try (have eE : w2.heap[w'.heap.size]? = some (.cells #[.int .u64 Gt] 36 (0, 0)) := (hb2.block w'.heap.size (by simp)).trans hEE)); (try (have hA2 := own_below hA hb2))) | (refine step_append_lies _ rfl (.tmp 23) (.tmp 31) 39 rfl (g7 + 1) 36 i0 _ 1 8 und_u64s hi hz0 hz1 hz2 rfl (by decide) (.slice G j cg) j (natL gs) rfl (by first | assumption | exact World.ownsRow.alloc (by assumption) _) _ 1 1 [.int .u64 Gt] rfl rfl (by first | exact cell_one_new _ _ _ | exact one_cell (by assumption)) (by simp [Value.oneCell']) (by omega) (by unfold maxLen; omega) (by omega) (by first | (have hq := hF6.size; simp; omega) | (have hq := hF4.size; simp; omega) | (have hq := hF2.size; simp; omega) | (have hq := hF0.size; simp; omega) | (simp; omega)) _ rfl ?_; intro ga ca w4 hA hgA hliA hltA; have hAl := lie_low (b := w'.heap.size) hliA (by first | (have hq := hF6.size; simp; omega) | (have hq := hF2.size; simp; omega) | simp); have hAU := lie_ne (n := j + 1) (c := ca) hAl hGU (fun q hq => (hUq q hq).2); (try (have hne4 : ga ≠ gn := lie_apart hliA hNl (by first | exact hltN | (simp; omega)) hGU (fun q hq => (hGq q hq).2))); have hF4 : Below (g7 + 1) w' w4 := fr_grown (by first | assumption | exact hFa _ _ (by assumption)) hgA (fun q hq => (hGq q hq).1) hg7w; obtain ⟨d10, d11, d12, d13⟩ := HL w4 hF4; (try (have hU4 : w4.ownsRow (g7 + 1) 36 1 (.slice U us.length cu) us.length (u64V us) := kept_ne (by first | assumption | exact World.ownsRow.alloc (by assumption) _) hgA hUG)); (try (have hC4 := kept_ne hC hgA (fun q hq hq2 => by cases hq; have := (hGq _ hq2).2; omega))); (try (have hC4 := kept_ne (hC.alloc _) hgA (fun q hq hq2 => by cases hq; have := (hGq _ hq2).2; omega))); (try (have hN4 := kept_ne hN hgA hNG)); (try (have hN4 := kept_ne (hN.alloc _) hgA hNG))) | (refine step_append_lies _ rfl (.tmp 34) (.tmp 37) 39 rfl (g7 + 1) 36 i0 _ 1 8 und_u64s hi hz0 hz1 hz2 rfl (by decide) (.slice U us.length cu) us.length (u64V us) rfl (by first | assumption | exact World.ownsRow.alloc (by assumption) _) _ nw.length _ (u64V nw) rfl (by simp) (own_cells (by first | assumption | exact World.ownsRow.alloc (by assumption) _)) (by simp [Value.oneCell']) hnw1 (by unfold maxLen; omega) (by omega) (by first | (have hq := hF6.size; simp; omega) | (have hq := hF4.size; simp; omega) | (have hq := hF2.size; simp; omega) | (have hq := hF0.size; simp; omega) | (simp; omega)) _ rfl ?_; intro gn cn w6 hN hgN hliN hltN; have hNl := lie_low (b := w'.heap.size) hliN (by first | (have hq := hF4.size; simp; omega) | (have hq := hF2.size; simp; omega)); have hNG := lie_ne (n := us.length + nw.length) (c := cn) hNl hUG (fun q hq => (hGq q hq).2); (try (have hA6 := kept_ne hA hgN hAU)); (try (have hA6 := kept_ne hA2 hgN hAU)); (try (have hne6 : ga ≠ gn := Ne.symm (lie_apart hliN hAl (by first | exact hltA | exact Nat.lt_of_lt_of_le hltA hb2.size | (simp; omega)) hUG (fun q hq => (hUq q hq).2)))); have hF6 : Below (g7 + 1) w' w6 := fr_grown (by first | assumption | exact hFa _ _ (by assumption)) hgN (fun q hq => (hUq q hq).1) hg7w; obtain ⟨f10, f11, f12, f13⟩ := HL w6 hF6; (try (have hG6 : w6.ownsRow (g7 + 1) 36 1 (.slice G j cg) j (natL gs) := kept_ne (by first | assumption | exact World.ownsRow.alloc (by assumption) _) hgN hGU)); (try (have eE6 : w6.heap[w'.heap.size]? = some (.cells #[.int .u64 Gt] 36 (0, 0)) := cell_kept eE hgN (fun e => by have := (hUq _ e).2; omega))); (try (have eE6 := cell_kept (heap_alloc_new w2 (.cells #[.int .u64 Gt] 36)) hgN (fun e => by have := (hUq _ e).2; have := hF2.size; omega)))))
                    refine hK.out _ _ (by (try dsimp only); (first | with_reducible assumption | (refine HK _ ?_; first | exact Below.mono (by assumption) (Nat.le_succ g7) | exact Below.mono (hFa _ _ (by assumption)) (Nat.le_succ g7) | exact (Below.mono (by assumption) (Nat.le_succ g7)).setCell (Nat.le_refl _) _ | exact ((Below.mono (by assumption) (Nat.le_succ g7)).setCell (Nat.le_refl _) _).setCell (Nat.le_refl _) _))) (fun hHeld58 => ?_)
                    clear hK K hHeld57
                    try simp only [Act.put, List.setIfInBounds_toArray, List.set_cons_zero, List.set_cons_succ]
                    refine wpAnyH_ready (rs := [18]) (by kernel_rfl) (by simp) ?_
                    refine held_cons (by rfl) (fun K hK => ?_) ?_
                    · go_simp
                      refine hK.out _ _ (by (try dsimp only); (first | with_reducible assumption | (refine HK _ ?_; first | exact Below.mono (by assumption) (Nat.le_succ g7) | exact Below.mono (hFa _ _ (by assumption)) (Nat.le_succ g7) | exact (Below.mono (by assumption) (Nat.le_succ g7)).setCell (Nat.le_refl _) _ | exact ((Below.mono (by assumption) (Nat.le_succ g7)).setCell (Nat.le_refl _) _).setCell (Nat.le_refl _) _))) (fun hHeld59 => ?_)
                      clear hK K hHeld58
                      try simp only [Act.put, List.setIfInBounds_toArray, List.set_cons_zero, List.set_cons_succ]
                      refine held_take (i := 19) (v := ?_) (by rfl) (by kernel_rfl) (by kernel_rfl) (by kernel_rfl) (fun _ _ _ h => h) (Or.inl ⟨by rfl, ?_⟩) hHeld59 ?_
                      rotate_left
                      · (intro w hSw; (try dsimp only at hSw); go_simp; try with_reducible rfl)
                      try simp only [Act.put, List.setIfInBounds_toArray, List.set_cons_zero, List.set_cons_succ]
                      refine wpAnyH_ready (rs := [20]) (by kernel_rfl) (by simp) ?_
                      refine held_cons (by rfl) (fun K hK => ?_) ?_
                      · go_simp
                        refine hK.out _ _ (by (try dsimp only); (first | with_reducible assumption | (refine HK _ ?_; first | exact Below.mono (by assumption) (Nat.le_succ g7) | exact Below.mono (hFa _ _ (by assumption)) (Nat.le_succ g7) | exact (Below.mono (by assumption) (Nat.le_succ g7)).setCell (Nat.le_refl _) _ | exact ((Below.mono (by assumption) (Nat.le_succ g7)).setCell (Nat.le_refl _) _).setCell (Nat.le_refl _) _))) (fun hHeld60 => ?_)
                        clear hK K hHeld59
                        try simp only [Act.put, List.setIfInBounds_toArray, List.set_cons_zero, List.set_cons_succ]
                        refine wpAnyH_done (by kernel_rfl) ?_ _
                        refine NoPanic.normal ?_
                        clear hHeld60
                        have hgoal : Below (g7 + 1) w' w6 ∧ w6.ownsRow (g7 + 1) 36 1 (.slice (some ⟨ga, 0, none⟩) (j + 1) ca) (j + 1) (natL gs ++ [.int .u64 Gt]) ∧ w6.ownsRow (g7 + 1) 36 1 (.slice (some ⟨gn, 0, none⟩) (us.length + nw.length) cn) (us.length + nw.length) (u64V us ++ u64V nw) ∧ ga ≠ gn := ⟨hF6, by assumption, by assumption, by assumption⟩
                        obtain ⟨k1, k2, k3, k4⟩ := hgoal
                        have hg6 : w6.heap[g7]? = some (.cells #[.int .i64 0, .int .i64 0, .int .u64 0, .int .i64 0, .int .u64 0, .int .i64 0, .int .i64 0, .bool false, .int .i64 0, .int .u64 0, .slice G j cg, .slice U us.length cu] 41) := (k1.block _ (Nat.lt_succ_self _)).trans hT7
                        have hq2 := heap_setCell_same _ g7 11 _ _ (.slice (some ⟨gn, 0, none⟩) (us.length + nw.length) cn) (heap_setCell_same w6 g7 10 _ _ (.slice (some ⟨ga, 0, none⟩) (j + 1) ca) hg6)
                        have hga7 : g7 + 1 ≤ ga := (k2.lt ga rfl).1
                        have hgn7 : g7 + 1 ≤ gn := (k3.lt gn rfl).1
                        have hBz : Below g7 Z ((w6.setCell ⟨g7, 10, none⟩ (.slice (some ⟨ga, 0, none⟩) (j + 1) ca)).setCell ⟨g7, 11, none⟩ (.slice (some ⟨gn, 0, none⟩) (us.length + nw.length) cn)) :=
                          ((hbel.trans (k1.mono (Nat.le_succ g7))).setCell (Nat.le_refl g7) _).setCell (Nat.le_refl g7) _
                        have hoz : ∀ q : Nat, q ≠ g7 → ((w6.setCell ⟨g7, 10, none⟩ (.slice (some ⟨ga, 0, none⟩) (j + 1) ca)).setCell ⟨g7, 11, none⟩ (.slice (some ⟨gn, 0, none⟩) (us.length + nw.length) cn)).heap[q]? = w6.heap[q]? := fun q hq =>
                          (Below.heap_setCell _ ⟨g7, 11, none⟩ _ _ hq).trans (Below.heap_setCell w6 ⟨g7, 10, none⟩ _ _ hq)
                        generalize ((w6.setCell ⟨g7, 10, none⟩ (.slice (some ⟨ga, 0, none⟩) (j + 1) ca)).setCell ⟨g7, 11, none⟩ (.slice (some ⟨gn, 0, none⟩) (us.length + nw.length) cn)) = z at *
                        have hAz := own_keepAt k2 (w' := z) (fun q hq => by cases hq; exact hoz ga (by omega))
                        have hNz := own_keepAt k3 (w' := z) (fun q hq => by cases hq; exact hoz gn (by omega))
                        have HAz := hide hAz
                        have HNz := hide hNz
                        have Hq2 := hide hq2
                        have HBz := hide hBz
                        clear hAz hNz hq2 hBz hoz k1 k2 k3 hg6
                        go_wp2
                        go_roundw
                        case rel =>
                          refine ⟨j + 1, gs ++ [Gt], us ++ nw, some ⟨ga, 0, none⟩, ca, some ⟨gn, 0, none⟩, cn, by omega, by go_num, Hnx, by simp [hgs], by rw [List.length_append]; omega, HBz.out, ?_, ?_, ?_, ?_⟩
                          · rw [List.length_append]
                            simpa using Hq2.out
                          · rw [natL_snoc]
                            exact HAz.out
                          · rw [List.length_append]
                            simpa using HNz.out
                          · intro q hq hq2
                            cases hq
                            cases hq2
                            exact k4 rfl
                        case measure => simp [intOf]; omega
                      exact AllReadyH.nil
                    exact AllReadyH.nil
                  exact AllReadyH.nil
                exact AllReadyH.nil
              exact AllReadyH.nil
            exact AllReadyH.nil
          refine held_cons (by rfl) (fun K hK => ?_) ?_
          · go_simp
            refine hK.out _ _ (by (try dsimp only); (first | with_reducible assumption | (refine HK _ ?_; first | exact Below.mono (by assumption) (Nat.le_succ g7) | exact Below.mono (hFa _ _ (by assumption)) (Nat.le_succ g7) | exact (Below.mono (by assumption) (Nat.le_succ g7)).setCell (Nat.le_refl _) _ | exact ((Below.mono (by assumption) (Nat.le_succ g7)).setCell (Nat.le_refl _) _).setCell (Nat.le_refl _) _))) (fun hHeld61 => ?_)
            clear hK K hHeld53
            try simp only [Act.put, List.setIfInBounds_toArray, List.set_cons_zero, List.set_cons_succ]
            refine wpAnyH_ready (rs := [1]) (by kernel_rfl) (by simp) ?_
            refine held_cons (by rfl) (fun K hK => ?_) ?_
            · go_simp
              refine hK.out _ _ (by (try dsimp only); (first | with_reducible assumption | (refine HK _ ?_; first | exact Below.mono (by assumption) (Nat.le_succ g7) | exact Below.mono (hFa _ _ (by assumption)) (Nat.le_succ g7) | exact (Below.mono (by assumption) (Nat.le_succ g7)).setCell (Nat.le_refl _) _ | exact ((Below.mono (by assumption) (Nat.le_succ g7)).setCell (Nat.le_refl _) _).setCell (Nat.le_refl _) _))) (fun hHeld62 => ?_)
              clear hK K hHeld61
              try simp only [Act.put, List.setIfInBounds_toArray, List.set_cons_zero, List.set_cons_succ]
              refine wpAnyH_ready (rs := [10]) (by kernel_rfl) (by simp) ?_
              refine held_cons (by rfl) (fun K hK => ?_) ?_
              · (first | (go_at_call 56; refine (HNew.out _ (hwF _ (by first | assumption | exact hFa _ _ (by assumption)))).mono ?_; rintro e w2 ⟨rfl, hC, hb2⟩; have hCs := call_size (g7 := g7) (Y := w') (by first | assumption | exact hFa _ _ (by assumption)) hb2; have hF2 : Below (g7 + 1) w' w2 := fr_call (by first | assumption | exact hFa _ _ (by assumption)) hb2 hg7w; obtain ⟨c10, c11, c12, c13⟩ := HL w2 hF2; (try (have hG2 : w2.ownsRow (g7 + 1) 36 1 (.slice G j cg) j (natL gs) := own_below (by first | assumption | exact World.ownsRow.alloc (by assumption) _) hb2)); (try (have hU2 : w2.ownsRow (g7 + 1) 36 1 (.slice U us.length cu) us.length (u64V us) := own_below (by first | assumption | exact World.ownsRow.alloc (by assumption) _) hb2)); (try (have eE : w2.heap[w'.heap.size]? = some (.cells #[.int .u64 Gt] 36 (0, 0)) := (hb2.block w'.heap.size (by simp)).trans hEE)); (try (have hA2 := own_below hA hb2))) | (refine step_append_lies _ rfl (.tmp 23) (.tmp 31) 39 rfl (g7 + 1) 36 i0 _ 1 8 und_u64s hi hz0 hz1 hz2 rfl (by decide) (.slice G j cg) j (natL gs) rfl (by first | assumption | exact World.ownsRow.alloc (by assumption) _) _ 1 1 [.int .u64 Gt] rfl rfl (by first | exact cell_one_new _ _ _ | exact one_cell (by assumption)) (by simp [Value.oneCell']) (by omega) (by unfold maxLen; omega) (by omega) (by first | (have hq := hF6.size; simp; omega) | (have hq := hF4.size; simp; omega) | (have hq := hF2.size; simp; omega) | (have hq := hF0.size; simp; omega) | (simp; omega)) _ rfl ?_; intro ga ca w4 hA hgA hliA hltA; have hAl := lie_low (b := w'.heap.size) hliA (by first | (have hq := hF6.size; simp; omega) | (have hq := hF2.size; simp; omega) | simp); have hAU := lie_ne (n := j + 1) (c := ca) hAl hGU (fun q hq => (hUq q hq).2); (try (have hne4 : ga ≠ gn := lie_apart hliA hNl (by first | exact hltN | (simp; omega)) hGU (fun q hq => (hGq q hq).2))); have hF4 : Below (g7 + 1) w' w4 := fr_grown (by first | assumption | exact hFa _ _ (by assumption)) hgA (fun q hq => (hGq q hq).1) hg7w; obtain ⟨d10, d11, d12, d13⟩ := HL w4 hF4; (try (have hU4 : w4.ownsRow (g7 + 1) 36 1 (.slice U us.length cu) us.length (u64V us) := kept_ne (by first | assumption | exact World.ownsRow.alloc (by assumption) _) hgA hUG)); (try (have hC4 := kept_ne hC hgA (fun q hq hq2 => by cases hq; have := (hGq _ hq2).2; omega))); (try (have hC4 := kept_ne (hC.alloc _) hgA (fun q hq hq2 => by cases hq; have := (hGq _ hq2).2; omega))); (try (have hN4 := kept_ne hN hgA hNG)); (try (have hN4 := kept_ne (hN.alloc _) hgA hNG))) | (refine step_append_lies _ rfl (.tmp 34) (.tmp 37) 39 rfl (g7 + 1) 36 i0 _ 1 8 und_u64s hi hz0 hz1 hz2 rfl (by decide) (.slice U us.length cu) us.length (u64V us) rfl (by first | assumption | exact World.ownsRow.alloc (by assumption) _) _ nw.length _ (u64V nw) rfl (by simp) (own_cells (by first | assumption | exact World.ownsRow.alloc (by assumption) _)) (by simp [Value.oneCell']) hnw1 (by unfold maxLen; omega) (by omega) (by first | (have hq := hF6.size; simp; omega) | (have hq := hF4.size; simp; omega) | (have hq := hF2.size; simp; omega) | (have hq := hF0.size; simp; omega) | (simp; omega)) _ rfl ?_; intro gn cn w6 hN hgN hliN hltN; have hNl := lie_low (b := w'.heap.size) hliN (by first | (have hq := hF4.size; simp; omega) | (have hq := hF2.size; simp; omega)); have hNG := lie_ne (n := us.length + nw.length) (c := cn) hNl hUG (fun q hq => (hGq q hq).2); (try (have hA6 := kept_ne hA hgN hAU)); (try (have hA6 := kept_ne hA2 hgN hAU)); (try (have hne6 : ga ≠ gn := Ne.symm (lie_apart hliN hAl (by first | exact hltA | exact Nat.lt_of_lt_of_le hltA hb2.size | (simp; omega)) hUG (fun q hq => (hUq q hq).2)))); have hF6 : Below (g7 + 1) w' w6 := fr_grown (by first | assumption | exact hFa _ _ (by assumption)) hgN (fun q hq => (hUq q hq).1) hg7w; obtain ⟨f10, f11, f12, f13⟩ := HL w6 hF6; (try (have hG6 : w6.ownsRow (g7 + 1) 36 1 (.slice G j cg) j (natL gs) := kept_ne (by first | assumption | exact World.ownsRow.alloc (by assumption) _) hgN hGU)); (try (have eE6 : w6.heap[w'.heap.size]? = some (.cells #[.int .u64 Gt] 36 (0, 0)) := cell_kept eE hgN (fun e => by have := (hUq _ e).2; omega))); (try (have eE6 := cell_kept (heap_alloc_new w2 (.cells #[.int .u64 Gt] 36)) hgN (fun e => by have := (hUq _ e).2; have := hF2.size; omega)))))
                refine hK.out _ _ (by (try dsimp only); (first | with_reducible assumption | (refine HK _ ?_; first | exact Below.mono (by assumption) (Nat.le_succ g7) | exact Below.mono (hFa _ _ (by assumption)) (Nat.le_succ g7) | exact (Below.mono (by assumption) (Nat.le_succ g7)).setCell (Nat.le_refl _) _ | exact ((Below.mono (by assumption) (Nat.le_succ g7)).setCell (Nat.le_refl _) _).setCell (Nat.le_refl _) _))) (fun hHeld63 => ?_)
                clear hK K hHeld62
                try simp only [Act.put, List.setIfInBounds_toArray, List.set_cons_zero, List.set_cons_succ]
                refine held_take (i := 17) (v := ?_) (by rfl) (by kernel_rfl) (by kernel_rfl) (by kernel_rfl) (fun _ _ _ h => h) (Or.inl ⟨by rfl, ?_⟩) hHeld63 ?_
                rotate_left
                · (intro w hSw; (try dsimp only at hSw); go_simp; try with_reducible rfl)
                try simp only [Act.put, List.setIfInBounds_toArray, List.set_cons_zero, List.set_cons_succ]
                refine wpAnyH_ready (rs := [15]) (by kernel_rfl) (by simp) ?_
                refine held_cons (by rfl) (fun K hK => ?_) ?_
                · go_simp
                  (first | (go_at_call 56; refine (HNew.out _ (hwF _ (by first | assumption | exact hFa _ _ (by assumption)))).mono ?_; rintro e w2 ⟨rfl, hC, hb2⟩; have hCs := call_size (g7 := g7) (Y := w') (by first | assumption | exact hFa _ _ (by assumption)) hb2; have hF2 : Below (g7 + 1) w' w2 := fr_call (by first | assumption | exact hFa _ _ (by assumption)) hb2 hg7w; obtain ⟨c10, c11, c12, c13⟩ := HL w2 hF2; (try (have hG2 : w2.ownsRow (g7 + 1) 36 1 (.slice G j cg) j (natL gs) := own_below (by first | assumption | exact World.ownsRow.alloc (by assumption) _) hb2)); (try (have hU2 : w2.ownsRow (g7 + 1) 36 1 (.slice U us.length cu) us.length (u64V us) := own_below (by first | assumption | exact World.ownsRow.alloc (by assumption) _) hb2)); (try (have eE : w2.heap[w'.heap.size]? = some (.cells #[.int .u64 Gt] 36 (0, 0)) := (hb2.block w'.heap.size (by simp)).trans hEE)); (try (have hA2 := own_below hA hb2))) | (refine step_append_lies _ rfl (.tmp 23) (.tmp 31) 39 rfl (g7 + 1) 36 i0 _ 1 8 und_u64s hi hz0 hz1 hz2 rfl (by decide) (.slice G j cg) j (natL gs) rfl (by first | assumption | exact World.ownsRow.alloc (by assumption) _) _ 1 1 [.int .u64 Gt] rfl rfl (by first | exact cell_one_new _ _ _ | exact one_cell (by assumption)) (by simp [Value.oneCell']) (by omega) (by unfold maxLen; omega) (by omega) (by first | (have hq := hF6.size; simp; omega) | (have hq := hF4.size; simp; omega) | (have hq := hF2.size; simp; omega) | (have hq := hF0.size; simp; omega) | (simp; omega)) _ rfl ?_; intro ga ca w4 hA hgA hliA hltA; have hAl := lie_low (b := w'.heap.size) hliA (by first | (have hq := hF6.size; simp; omega) | (have hq := hF2.size; simp; omega) | simp); have hAU := lie_ne (n := j + 1) (c := ca) hAl hGU (fun q hq => (hUq q hq).2); (try (have hne4 : ga ≠ gn := lie_apart hliA hNl (by first | exact hltN | (simp; omega)) hGU (fun q hq => (hGq q hq).2))); have hF4 : Below (g7 + 1) w' w4 := fr_grown (by first | assumption | exact hFa _ _ (by assumption)) hgA (fun q hq => (hGq q hq).1) hg7w; obtain ⟨d10, d11, d12, d13⟩ := HL w4 hF4; (try (have hU4 : w4.ownsRow (g7 + 1) 36 1 (.slice U us.length cu) us.length (u64V us) := kept_ne (by first | assumption | exact World.ownsRow.alloc (by assumption) _) hgA hUG)); (try (have hC4 := kept_ne hC hgA (fun q hq hq2 => by cases hq; have := (hGq _ hq2).2; omega))); (try (have hC4 := kept_ne (hC.alloc _) hgA (fun q hq hq2 => by cases hq; have := (hGq _ hq2).2; omega))); (try (have hN4 := kept_ne hN hgA hNG)); (try (have hN4 := kept_ne (hN.alloc _) hgA hNG))) | (refine step_append_lies _ rfl (.tmp 34) (.tmp 37) 39 rfl (g7 + 1) 36 i0 _ 1 8 und_u64s hi hz0 hz1 hz2 rfl (by decide) (.slice U us.length cu) us.length (u64V us) rfl (by first | assumption | exact World.ownsRow.alloc (by assumption) _) _ nw.length _ (u64V nw) rfl (by simp) (own_cells (by first | assumption | exact World.ownsRow.alloc (by assumption) _)) (by simp [Value.oneCell']) hnw1 (by unfold maxLen; omega) (by omega) (by first | (have hq := hF6.size; simp; omega) | (have hq := hF4.size; simp; omega) | (have hq := hF2.size; simp; omega) | (have hq := hF0.size; simp; omega) | (simp; omega)) _ rfl ?_; intro gn cn w6 hN hgN hliN hltN; have hNl := lie_low (b := w'.heap.size) hliN (by first | (have hq := hF4.size; simp; omega) | (have hq := hF2.size; simp; omega)); have hNG := lie_ne (n := us.length + nw.length) (c := cn) hNl hUG (fun q hq => (hGq q hq).2); (try (have hA6 := kept_ne hA hgN hAU)); (try (have hA6 := kept_ne hA2 hgN hAU)); (try (have hne6 : ga ≠ gn := Ne.symm (lie_apart hliN hAl (by first | exact hltA | exact Nat.lt_of_lt_of_le hltA hb2.size | (simp; omega)) hUG (fun q hq => (hUq q hq).2)))); have hF6 : Below (g7 + 1) w' w6 := fr_grown (by first | assumption | exact hFa _ _ (by assumption)) hgN (fun q hq => (hUq q hq).1) hg7w; obtain ⟨f10, f11, f12, f13⟩ := HL w6 hF6; (try (have hG6 : w6.ownsRow (g7 + 1) 36 1 (.slice G j cg) j (natL gs) := kept_ne (by first | assumption | exact World.ownsRow.alloc (by assumption) _) hgN hGU)); (try (have eE6 : w6.heap[w'.heap.size]? = some (.cells #[.int .u64 Gt] 36 (0, 0)) := cell_kept eE hgN (fun e => by have := (hUq _ e).2; omega))); (try (have eE6 := cell_kept (heap_alloc_new w2 (.cells #[.int .u64 Gt] 36)) hgN (fun e => by have := (hUq _ e).2; have := hF2.size; omega)))))
                  go_wp2_with fail
                  refine hK.out _ _ (by (try dsimp only); (first | with_reducible assumption | (refine HK _ ?_; first | exact Below.mono (by assumption) (Nat.le_succ g7) | exact Below.mono (hFa _ _ (by assumption)) (Nat.le_succ g7) | exact (Below.mono (by assumption) (Nat.le_succ g7)).setCell (Nat.le_refl _) _ | exact ((Below.mono (by assumption) (Nat.le_succ g7)).setCell (Nat.le_refl _) _).setCell (Nat.le_refl _) _))) (fun hHeld64 => ?_)
                  clear hK K hHeld63
                  try simp only [Act.put, List.setIfInBounds_toArray, List.set_cons_zero, List.set_cons_succ]
                  refine wpAnyH_ready (rs := [16]) (by kernel_rfl) (by simp) ?_
                  refine held_cons (by rfl) (fun K hK => ?_) ?_
                  · (first | (go_at_call 56; refine (HNew.out _ (hwF _ (by first | assumption | exact hFa _ _ (by assumption)))).mono ?_; rintro e w2 ⟨rfl, hC, hb2⟩; have hCs := call_size (g7 := g7) (Y := w') (by first | assumption | exact hFa _ _ (by assumption)) hb2; have hF2 : Below (g7 + 1) w' w2 := fr_call (by first | assumption | exact hFa _ _ (by assumption)) hb2 hg7w; obtain ⟨c10, c11, c12, c13⟩ := HL w2 hF2; (try (have hG2 : w2.ownsRow (g7 + 1) 36 1 (.slice G j cg) j (natL gs) := own_below (by first | assumption | exact World.ownsRow.alloc (by assumption) _) hb2)); (try (have hU2 : w2.ownsRow (g7 + 1) 36 1 (.slice U us.length cu) us.length (u64V us) := own_below (by first | assumption | exact World.ownsRow.alloc (by assumption) _) hb2)); (try (have eE : w2.heap[w'.heap.size]? = some (.cells #[.int .u64 Gt] 36 (0, 0)) := (hb2.block w'.heap.size (by simp)).trans hEE)); (try (have hA2 := own_below hA hb2))) | (refine step_append_lies _ rfl (.tmp 23) (.tmp 31) 39 rfl (g7 + 1) 36 i0 _ 1 8 und_u64s hi hz0 hz1 hz2 rfl (by decide) (.slice G j cg) j (natL gs) rfl (by first | assumption | exact World.ownsRow.alloc (by assumption) _) _ 1 1 [.int .u64 Gt] rfl rfl (by first | exact cell_one_new _ _ _ | exact one_cell (by assumption)) (by simp [Value.oneCell']) (by omega) (by unfold maxLen; omega) (by omega) (by first | (have hq := hF6.size; simp; omega) | (have hq := hF4.size; simp; omega) | (have hq := hF2.size; simp; omega) | (have hq := hF0.size; simp; omega) | (simp; omega)) _ rfl ?_; intro ga ca w4 hA hgA hliA hltA; have hAl := lie_low (b := w'.heap.size) hliA (by first | (have hq := hF6.size; simp; omega) | (have hq := hF2.size; simp; omega) | simp); have hAU := lie_ne (n := j + 1) (c := ca) hAl hGU (fun q hq => (hUq q hq).2); (try (have hne4 : ga ≠ gn := lie_apart hliA hNl (by first | exact hltN | (simp; omega)) hGU (fun q hq => (hGq q hq).2))); have hF4 : Below (g7 + 1) w' w4 := fr_grown (by first | assumption | exact hFa _ _ (by assumption)) hgA (fun q hq => (hGq q hq).1) hg7w; obtain ⟨d10, d11, d12, d13⟩ := HL w4 hF4; (try (have hU4 : w4.ownsRow (g7 + 1) 36 1 (.slice U us.length cu) us.length (u64V us) := kept_ne (by first | assumption | exact World.ownsRow.alloc (by assumption) _) hgA hUG)); (try (have hC4 := kept_ne hC hgA (fun q hq hq2 => by cases hq; have := (hGq _ hq2).2; omega))); (try (have hC4 := kept_ne (hC.alloc _) hgA (fun q hq hq2 => by cases hq; have := (hGq _ hq2).2; omega))); (try (have hN4 := kept_ne hN hgA hNG)); (try (have hN4 := kept_ne (hN.alloc _) hgA hNG))) | (refine step_append_lies _ rfl (.tmp 34) (.tmp 37) 39 rfl (g7 + 1) 36 i0 _ 1 8 und_u64s hi hz0 hz1 hz2 rfl (by decide) (.slice U us.length cu) us.length (u64V us) rfl (by first | assumption | exact World.ownsRow.alloc (by assumption) _) _ nw.length _ (u64V nw) rfl (by simp) (own_cells (by first | assumption | exact World.ownsRow.alloc (by assumption) _)) (by simp [Value.oneCell']) hnw1 (by unfold maxLen; omega) (by omega) (by first | (have hq := hF6.size; simp; omega) | (have hq := hF4.size; simp; omega) | (have hq := hF2.size; simp; omega) | (have hq := hF0.size; simp; omega) | (simp; omega)) _ rfl ?_; intro gn cn w6 hN hgN hliN hltN; have hNl := lie_low (b := w'.heap.size) hliN (by first | (have hq := hF4.size; simp; omega) | (have hq := hF2.size; simp; omega)); have hNG := lie_ne (n := us.length + nw.length) (c := cn) hNl hUG (fun q hq => (hGq q hq).2); (try (have hA6 := kept_ne hA hgN hAU)); (try (have hA6 := kept_ne hA2 hgN hAU)); (try (have hne6 : ga ≠ gn := Ne.symm (lie_apart hliN hAl (by first | exact hltA | exact Nat.lt_of_lt_of_le hltA hb2.size | (simp; omega)) hUG (fun q hq => (hUq q hq).2)))); have hF6 : Below (g7 + 1) w' w6 := fr_grown (by first | assumption | exact hFa _ _ (by assumption)) hgN (fun q hq => (hUq q hq).1) hg7w; obtain ⟨f10, f11, f12, f13⟩ := HL w6 hF6; (try (have hG6 : w6.ownsRow (g7 + 1) 36 1 (.slice G j cg) j (natL gs) := kept_ne (by first | assumption | exact World.ownsRow.alloc (by assumption) _) hgN hGU)); (try (have eE6 : w6.heap[w'.heap.size]? = some (.cells #[.int .u64 Gt] 36 (0, 0)) := cell_kept eE hgN (fun e => by have := (hUq _ e).2; omega))); (try (have eE6 := cell_kept (heap_alloc_new w2 (.cells #[.int .u64 Gt] 36)) hgN (fun e => by have := (hUq _ e).2; have := hF2.size; omega)))))
                    refine hK.out _ _ (by (try dsimp only); (first | with_reducible assumption | (refine HK _ ?_; first | exact Below.mono (by assumption) (Nat.le_succ g7) | exact Below.mono (hFa _ _ (by assumption)) (Nat.le_succ g7) | exact (Below.mono (by assumption) (Nat.le_succ g7)).setCell (Nat.le_refl _) _ | exact ((Below.mono (by assumption) (Nat.le_succ g7)).setCell (Nat.le_refl _) _).setCell (Nat.le_refl _) _))) (fun hHeld65 => ?_)
                    clear hK K hHeld64
                    try simp only [Act.put, List.setIfInBounds_toArray, List.set_cons_zero, List.set_cons_succ]
                    refine wpAnyH_ready (rs := [18]) (by kernel_rfl) (by simp) ?_
                    refine held_cons (by rfl) (fun K hK => ?_) ?_
                    · go_simp
                      refine hK.out _ _ (by (try dsimp only); (first | with_reducible assumption | (refine HK _ ?_; first | exact Below.mono (by assumption) (Nat.le_succ g7) | exact Below.mono (hFa _ _ (by assumption)) (Nat.le_succ g7) | exact (Below.mono (by assumption) (Nat.le_succ g7)).setCell (Nat.le_refl _) _ | exact ((Below.mono (by assumption) (Nat.le_succ g7)).setCell (Nat.le_refl _) _).setCell (Nat.le_refl _) _))) (fun hHeld66 => ?_)
                      clear hK K hHeld65
                      try simp only [Act.put, List.setIfInBounds_toArray, List.set_cons_zero, List.set_cons_succ]
                      refine held_take (i := 19) (v := ?_) (by rfl) (by kernel_rfl) (by kernel_rfl) (by kernel_rfl) (fun _ _ _ h => h) (Or.inl ⟨by rfl, ?_⟩) hHeld66 ?_
                      rotate_left
                      · (intro w hSw; (try dsimp only at hSw); go_simp; try with_reducible rfl)
                      try simp only [Act.put, List.setIfInBounds_toArray, List.set_cons_zero, List.set_cons_succ]
                      refine wpAnyH_ready (rs := [20]) (by kernel_rfl) (by simp) ?_
                      refine held_cons (by rfl) (fun K hK => ?_) ?_
                      · go_simp
                        refine hK.out _ _ (by (try dsimp only); (first | with_reducible assumption | (refine HK _ ?_; first | exact Below.mono (by assumption) (Nat.le_succ g7) | exact Below.mono (hFa _ _ (by assumption)) (Nat.le_succ g7) | exact (Below.mono (by assumption) (Nat.le_succ g7)).setCell (Nat.le_refl _) _ | exact ((Below.mono (by assumption) (Nat.le_succ g7)).setCell (Nat.le_refl _) _).setCell (Nat.le_refl _) _))) (fun hHeld67 => ?_)
                        clear hK K hHeld66
                        try simp only [Act.put, List.setIfInBounds_toArray, List.set_cons_zero, List.set_cons_succ]
                        refine wpAnyH_done (by kernel_rfl) ?_ _
                        refine NoPanic.normal ?_
                        clear hHeld67
                        have hgoal : Below (g7 + 1) w' w6 ∧ w6.ownsRow (g7 + 1) 36 1 (.slice (some ⟨ga, 0, none⟩) (j + 1) ca) (j + 1) (natL gs ++ [.int .u64 Gt]) ∧ w6.ownsRow (g7 + 1) 36 1 (.slice (some ⟨gn, 0, none⟩) (us.length + nw.length) cn) (us.length + nw.length) (u64V us ++ u64V nw) ∧ ga ≠ gn := ⟨hF6, by assumption, by assumption, by assumption⟩
                        obtain ⟨k1, k2, k3, k4⟩ := hgoal
                        have hg6 : w6.heap[g7]? = some (.cells #[.int .i64 0, .int .i64 0, .int .u64 0, .int .i64 0, .int .u64 0, .int .i64 0, .int .i64 0, .bool false, .int .i64 0, .int .u64 0, .slice G j cg, .slice U us.length cu] 41) := (k1.block _ (Nat.lt_succ_self _)).trans hT7
                        have hq2 := heap_setCell_same _ g7 11 _ _ (.slice (some ⟨gn, 0, none⟩) (us.length + nw.length) cn) (heap_setCell_same w6 g7 10 _ _ (.slice (some ⟨ga, 0, none⟩) (j + 1) ca) hg6)
                        have hga7 : g7 + 1 ≤ ga := (k2.lt ga rfl).1
                        have hgn7 : g7 + 1 ≤ gn := (k3.lt gn rfl).1
                        have hBz : Below g7 Z ((w6.setCell ⟨g7, 10, none⟩ (.slice (some ⟨ga, 0, none⟩) (j + 1) ca)).setCell ⟨g7, 11, none⟩ (.slice (some ⟨gn, 0, none⟩) (us.length + nw.length) cn)) :=
                          ((hbel.trans (k1.mono (Nat.le_succ g7))).setCell (Nat.le_refl g7) _).setCell (Nat.le_refl g7) _
                        have hoz : ∀ q : Nat, q ≠ g7 → ((w6.setCell ⟨g7, 10, none⟩ (.slice (some ⟨ga, 0, none⟩) (j + 1) ca)).setCell ⟨g7, 11, none⟩ (.slice (some ⟨gn, 0, none⟩) (us.length + nw.length) cn)).heap[q]? = w6.heap[q]? := fun q hq =>
                          (Below.heap_setCell _ ⟨g7, 11, none⟩ _ _ hq).trans (Below.heap_setCell w6 ⟨g7, 10, none⟩ _ _ hq)
                        generalize ((w6.setCell ⟨g7, 10, none⟩ (.slice (some ⟨ga, 0, none⟩) (j + 1) ca)).setCell ⟨g7, 11, none⟩ (.slice (some ⟨gn, 0, none⟩) (us.length + nw.length) cn)) = z at *
                        have hAz := own_keepAt k2 (w' := z) (fun q hq => by cases hq; exact hoz ga (by omega))
                        have hNz := own_keepAt k3 (w' := z) (fun q hq => by cases hq; exact hoz gn (by omega))
                        have HAz := hide hAz
                        have HNz := hide hNz
                        have Hq2 := hide hq2
                        have HBz := hide hBz
                        clear hAz hNz hq2 hBz hoz k1 k2 k3 hg6
                        go_wp2
                        go_roundw
                        case rel =>
                          refine ⟨j + 1, gs ++ [Gt], us ++ nw, some ⟨ga, 0, none⟩, ca, some ⟨gn, 0, none⟩, cn, by omega, by go_num, Hnx, by simp [hgs], by rw [List.length_append]; omega, HBz.out, ?_, ?_, ?_, ?_⟩
                          · rw [List.length_append]
                            simpa using Hq2.out
                          · rw [natL_snoc]
                            exact HAz.out
                          · rw [List.length_append]
                            simpa using HNz.out
                          · intro q hq hq2
                            cases hq
                            cases hq2
                            exact k4 rfl
                        case measure => simp [intOf]; omega
                      exact AllReadyH.nil
                    exact AllReadyH.nil
                  exact AllReadyH.nil
                exact AllReadyH.nil
              exact AllReadyH.nil
            exact AllReadyH.nil
          exact AllReadyH.nil
        exact AllReadyH.nil
    · have hjn : j = n := by omega
      subst hjn
      have hend : snapGo S c.set [] [] = { refS 0 with gens := gs, words := us } := by
        rw [Hgo.out, List.drop_eq_nil_of_le (by have := Hn.out; omega), snapGo]
      have Hend := hide hend
      have HG := hide hG
      have HU := hide hU
      have Hgs := hide hgs
      clear hend hG hU hGU hgs hus hlt
      go_wp2
      have hresl : Tryz.f28.results = #[.cell 6 41] := by kernel_rfl
      refine bodyPost_ret (v := anV { refS 0 with gens := gs, words := us } (.slice G j cg) (.slice U us.length cu)) ?_ rfl ?_
      · simp only [results, hresl]
        go_simp
        simp [refS, rg0]
      · rw [Hend.out]
        have hbz := set12_below hbw (Nat.le_succ _) (.int .i64 0) (.int .i64 0) (.int .u64 0) (.int .i64 0) (.int .u64 0) (.int .i64 0) (.int .i64 0) (.bool false) (.int .i64 0) (.int .u64 0) (.slice G j cg) (.slice U us.length cu)
        have hoz : ∀ q : Nat, q ≠ w.heap.size + 1 → _ := fun q hq => set12_other (x := wr) hq (.int .i64 0) (.int .i64 0) (.int .u64 0) (.int .i64 0) (.int .u64 0) (.int .i64 0) (.int .i64 0) (.bool false) (.int .i64 0) (.int .u64 0) (.slice G j cg) (.slice U us.length cu)
        refine ⟨m, .slice G j cg, .slice U us.length cu, rfl, (HI.out.mono (Nat.le_succ k) hk).below hbz, Turns.of_below m hbz, ?_, ?_, ?_⟩
        · have h1 := own_keepAt (own_base HG.out (show w.heap.size ≤ g7 + 1 by omega)) (fun q hq => hoz q (by have := (HG.out.lt q hq).1; omega))
          rw [← Hgs.out] at h1 ⊢
          exact h1
        · exact own_keepAt (own_base HU.out (show w.heap.size ≤ g7 + 1 by omega)) (fun q hq => hoz q (by have := (HU.out.lt q hq).1; omega))
        · intro q hq
          have hq1 : g7 + 1 ≤ q := by
            rcases hq with hq | hq
            · exact (HG.out.lt q hq).1
            · exact (HU.out.lt q hq).1
          exact ⟨fun ho => by have := HM.out q (.inl ho); omega, fun ho => by have := HM.out q (.inr ho); omega⟩

end Go.Proofs.YtclgmikdjcjjdaaGreatDoor
