/-
  The walk of the blackboard's call Publish. Conditions: a blackboard in memory; the call's words are not the blackboard's.
-/
import Derived.Test.YtpilfhjlfbjloaaGreatDoorBUpd
namespace Go.Proofs.YtpilfhjlfbjloaaGreatDoor
open Go.RowKit


/-- A topic's words and depth, read. -/
theorem IsBd.topic {k : Nat} {w : World} {m : Mem} {S : Bd} (h : IsBd k w m S) {t : Nat} (ht : t < S.gens.length) :
    ∃ b o c p, m.tv = .slice (some ⟨b, o, none⟩) S.gens.length c ∧ m.ro b ∧ b < w.heap.size ∧ S.tp[t]? = some p ∧ S.words t = p.2.1 ∧ S.depth t = p.2.2 ∧ (1 ≤ p.2.1 ∧ p.2.1 ≤ 64 ∧ 2 ≤ p.2.2 ∧ p.2.2 ≤ 16) ∧
      w.cell? ⟨b, o + t * 3 + 1, none⟩ = some (.int .i64 p.2.1) ∧ w.cell? ⟨b, o + t * 3 + 2, none⟩ = some (.int .i64 p.2.2) := by
  have hg := h.inv.glen
  obtain ⟨b, o, c, hv, h1, h2, hb, hc⟩ := h.topics.open_ (by omega)
  have htp : t < S.tp.length := by omega
  obtain ⟨f0, f1, f2⟩ := flatT_at S.tp t htp
  have hp : S.tp[t]? = some S.tp[t] := by simp
  refine ⟨b, o, c, S.tp[t], by rw [hg]; exact hv, .inl (by rw [hv]; rfl), hb, hp, by simp [Bd.words, hp], by simp [Bd.depth, hp], h.inv.tp _ (List.getElem_mem htp), hc _ _ f1, hc _ _ f2⟩

theorem own_set1 {w : World} {g n cap t : Nat} {e : TypeId} {xs : List Value} {u : Value} (h : w.ownsRow 0 e 1 (.slice (some ⟨g, 0, none⟩) n cap) n xs) (ht : t < n) : (w.setCell ⟨g, t, none⟩ u).ownsRow 0 e 1 (.slice (some ⟨g, 0, none⟩) n cap) n (xs.set t u) := by
  refine ⟨by rw [List.length_set]; exact h.1, ?_⟩
  rcases h.2 with ⟨hv, hn⟩ | ⟨g', cap', cur, hv, hb, hg, h1, h2, h3, h4⟩
  · omega
  · cases hv
    refine .inr ⟨g, cap, _, rfl, hb, heap_setCell_same w g t _ e u hg, h1, h2, by simp [h3], ?_⟩
    rw [← h4]
    simp only [Nat.mul_one, Array.toList_setIfInBounds]
    rw [List.take_set]

theorem natL_set (l : List Nat) (t x : Nat) : (natL l).set t (.int .u64 x) = natL (l.set t x) := by simp [natL, List.map_set]

/-- The records' places behind a publishing. -/
def pushV (f : Nat → Nat → Option Value) (t G1 D : Nat) (v : Value) : Nat → Nat → Option Value := fun t' g =>
  if t' = t then (if D ≤ G1 ∧ g = G1 - D then none else if g = G1 then some v else f t' g) else f t' g

theorem pushV_in (f : Nat → Nat → Option Value) (t G1 D : Nat) (v : Value) (h : ¬ D ≤ G1) : pushV f t G1 D v = laidIn f t G1 v := by
  funext t' g
  unfold pushV laidIn
  by_cases h1 : t' = t <;> simp [h1, h]

theorem pushV_out (f : Nat → Nat → Option Value) (t G1 D : Nat) (v : Value) (h : D ≤ G1) : pushV f t G1 D v = takenOut (laidIn f t G1 v) t (G1 - D) := by
  funext t' g
  unfold pushV laidIn takenOut
  by_cases h1 : t' = t <;> simp [h1, h]

theorem push_match {S : Bd} {t G D : Nat} (hG : G = S.gen t) (hD : S.depth t = D) (ws : List Int) (t' g : Nat) :
    pushS S t ws t' g = if t' = t then (if D ≤ G + 1 ∧ g = G + 1 - D then none else if g = G + 1 then some ws else S.recs t' g) else S.recs t' g := by
  unfold pushS
  rw [hD, ← hG]
  by_cases h1 : t' = t
  · simp only [h1, if_true]
    have e : ((D : Int) ≤ ((G + 1 : Nat) : Int) ∧ (g : Int) = ((G + 1 : Nat) : Int) - (D : Int)) ↔ (D ≤ G + 1 ∧ g = G + 1 - D) := by omega
    simp only [e]
  · simp [h1]

/-- A record more, in memory. -/
theorem IsBd.set_pub {k : Nat} {w w' : World} {m : Mem} {S : Bd} (h : IsBd k w m S) (hk1 : k + 1 ≤ 1000000) {t G D : Nat} (ht : t < S.gens.length) (hD1 : 1 ≤ D) (hG : G = S.gen t) (hD : S.depth t = D) {v : Value} {ws : List Int} (hws : 1 ≤ ws.length ∧ ws.length ≤ 100)
    (hs : w.heap.size ≤ w'.heap.size) (hk : ∀ i, i ≠ m.gb → i ≠ m.rb → i < w.heap.size → w'.heap[i]? = w.heap[i]?)
    (hg : w'.ownsRow 0 39 1 (gsV m S) S.gens.length (natL (S.gens.set t (G + 1)))) (hm : MapIs w' m.rb (64 + (k + 1)) (pushV m.rv t (G + 1) D v)) (hv : w'.ownsRow w.heap.size 39 1 v ws.length (u64V ws)) :
    IsBd (k + 1) w' { m with rv := pushV m.rv t (G + 1) D v } { S with gens := S.gens.set t (G + 1), recs := pushS S t ws } := by
  have hnd := h.nd
  simp only [List.nodup_cons, List.mem_cons, List.not_mem_nil, or_false, not_or] at hnd
  obtain ⟨⟨n1, n2, n3, n4⟩, ⟨n5, n6, n7⟩, ⟨n8, n9⟩, n10, -⟩ := hnd
  have hro : ∀ i, m.ro i → w'.heap[i]? = w.heap[i]? := fun i hi => hk i (fun e => h.disj i (.inr (.inr (.inl e))) hi) (fun e => h.disj i (.inr (.inl e)) hi) (h.lt i (.inr hi))
  have hi := h.inv.mono (Nat.le_succ k)
  have hGk : G ≤ k := by rw [hG]; exact h.gen_le t
  have hmem : ∀ i, ({ m with rv := pushV m.rv t (G + 1) D v } : Mem).ro i → m.ro i ∨ w.heap.size ≤ i := fun i hi => by
    rcases hi with hi | ⟨t', g, u, hu, hq⟩
    · exact .inl (.inl hi)
    · simp only [pushV] at hu
      by_cases h1 : t' = t
      · rw [if_pos h1] at hu
        by_cases h2 : D ≤ G + 1 ∧ g = G + 1 - D
        · rw [if_pos h2] at hu; cases hu
        · rw [if_neg h2] at hu
          by_cases h3 : g = G + 1
          · rw [if_pos h3] at hu
            cases hu
            exact .inr (hv.lt i hq).1
          · rw [if_neg h3] at hu
            exact .inl (.inr ⟨t', g, u, hu, hq⟩)
      · rw [if_neg h1] at hu
        exact .inl (.inr ⟨t', g, u, hu, hq⟩)
  exact
  { inv := ⟨hi.tasks, hi.tlen, hi.tp, by rw [List.length_set]; exact hi.glen, fun g hg => by
        rcases List.mem_or_eq_of_mem_set hg with hg | hg
        · exact hi.gk g hg
        · omega, hi.slen, hi.sub8, hi.subs, hi.owns, hi.reg, fun t' g us hu => by
        change pushS S t ws t' g = some us at hu
        rw [push_match hG hD] at hu
        by_cases h1 : t' = t
        · rw [if_pos h1] at hu
          by_cases h2 : D ≤ G + 1 ∧ g = G + 1 - D
          · rw [if_pos h2] at hu; cases hu
          · rw [if_neg h2] at hu
            by_cases h3 : g = G + 1
            · rw [if_pos h3] at hu; cases hu; exact hws
            · rw [if_neg h3] at hu; exact hi.recs t' g us hu
        · rw [if_neg h1] at hu; exact hi.recs t' g us hu, fun t' ht' => by
        show ∃ us, pushS S t ws t' ((S.gens.set t (G + 1)).getD t' 0) = some us
        rw [push_match hG hD]
        by_cases h1 : t' = t
        · subst h1
          have e : (S.gens.set t' (G + 1)).getD t' 0 = G + 1 := by simp [ht]
          rw [if_pos rfl, e, if_neg (by omega), if_pos rfl]
          exact ⟨ws, rfl⟩
        · rw [if_neg h1]
          have ht2 : t' < S.gens.length := by simpa using ht'
          have e : (S.gens.set t (G + 1)).getD t' 0 = S.gen t' := by
            unfold Bd.gen
            simp [List.getElem?_set_ne (Ne.symm h1)]
          rw [e]
          exact h.inv.kept t' ht2⟩
    kk := hk1
    blk := by
      show w'.heap[m.bb]? = some (.cells #[.int .i64 S.tasks, m.tv, .int .i64 S.tries, .int .i64 S.log, .map (some m.rb), .slice (some ⟨m.gb, 0, none⟩) (S.gens.set t (G + 1)).length m.gc, .map (some m.ob), ssV m S, .int .i64 S.st.mode, .int .i64 S.st.source, .bool S.st.hold, .int .i64 S.st.flags, .int .u64 S.st.epoch] 77)
      rw [List.length_set]
      exact (hk _ n2 n1 (h.lt _ (.inl (.inl rfl)))).trans h.blk
    gens := by
      show w'.ownsRow 0 39 1 (.slice (some ⟨m.gb, 0, none⟩) (S.gens.set t (G + 1)).length m.gc) (S.gens.set t (G + 1)).length (natL (S.gens.set t (G + 1)))
      rw [List.length_set]
      exact hg
    recs := hm
    owns := (h.owns.mono (Nat.le_succ k)).keep (hk _ (Ne.symm n8) (Ne.symm n6) (h.lt _ (.inl (.inr (.inr (.inr (.inl rfl)))))))
    subs := (hk _ (Ne.symm n9) (Ne.symm n7) (h.lt _ (.inl (.inr (.inr (.inr (.inr (.inl rfl)))))))).trans h.subs
    rlen := h.rlen
    rows := fun t v l hv hl => own_keepAt (h.rows t v l hv hl) (fun q hq => hk q (h.rown v (List.mem_of_getElem? hv) q hq).2.2.1 (h.rown v (List.mem_of_getElem? hv) q hq).2.1 (h.lt q (.inl (.inr (.inr (.inr (.inr (.inr ⟨v, List.mem_of_getElem? hv, hq⟩))))))))
    topics := h.topics.keepAt hs (fun q hq => hro q (.inl hq))
    rd := fun t' g u hu => by
      simp only [pushV] at hu
      simp only [push_match hG hD]
      by_cases h1 : t' = t
      · rw [if_pos h1] at hu ⊢
        by_cases h2 : D ≤ G + 1 ∧ g = G + 1 - D
        · rw [if_pos h2] at hu; cases hu
        · rw [if_neg h2] at hu ⊢
          by_cases h3 : g = G + 1
          · rw [if_pos h3] at hu ⊢
            cases hu
            exact ⟨ws, rfl, Rd.of_own hv⟩
          · rw [if_neg h3] at hu ⊢
            obtain ⟨us, a1, a2⟩ := h.rd t' g u hu
            exact ⟨us, a1, a2.keepAt hs (fun q hq => hro q (.inr ⟨t', g, u, hu, hq⟩))⟩
      · rw [if_neg h1] at hu ⊢
        obtain ⟨us, a1, a2⟩ := h.rd t' g u hu
        exact ⟨us, a1, a2.keepAt hs (fun q hq => hro q (.inr ⟨t', g, u, hu, hq⟩))⟩
    rn := fun t' g hu => by
      simp only [pushV] at hu
      simp only [push_match hG hD]
      by_cases h1 : t' = t
      · rw [if_pos h1] at hu ⊢
        by_cases h2 : D ≤ G + 1 ∧ g = G + 1 - D
        · rw [if_pos h2]
        · rw [if_neg h2] at hu ⊢
          by_cases h3 : g = G + 1
          · rw [if_pos h3] at hu; cases hu
          · rw [if_neg h3] at hu ⊢
            exact h.rn t' g hu
      · rw [if_neg h1] at hu ⊢
        exact h.rn t' g hu
    nd := h.nd
    rown := h.rown
    rdis := h.rdis
    disj := fun i hi hr => (hmem i hr).elim (h.disj i hi) (fun hge => by have := h.lt i (.inl hi); omega)
    lt := fun i hi => by
      rcases hi with hi | hi
      · exact Nat.lt_of_lt_of_le (h.lt i (.inl hi)) hs
      · rcases hi with hi | ⟨t', g, u, hu, hq⟩
        · exact Nat.lt_of_lt_of_le (h.lt i (.inr (.inl hi))) hs
        · simp only [pushV] at hu
          by_cases h1 : t' = t
          · rw [if_pos h1] at hu
            by_cases h2 : D ≤ G + 1 ∧ g = G + 1 - D
            · rw [if_pos h2] at hu; cases hu
            · rw [if_neg h2] at hu
              by_cases h3 : g = G + 1
              · rw [if_pos h3] at hu
                cases hu
                exact (hv.lt i hq).2
              · rw [if_neg h3] at hu
                exact Nat.lt_of_lt_of_le (h.lt i (.inr (.inr ⟨t', g, u, hu, hq⟩))) hs
          · rw [if_neg h1] at hu
            exact Nat.lt_of_lt_of_le (h.lt i (.inr (.inr ⟨t', g, u, hu, hq⟩))) hs }

theorem pub_end {k : Nat} {w Z X : World} {m : Mem} {S : Bd} (h : IsBd k w m S) (hk1 : k + 1 ≤ 1000000) (hZb : Below w.heap.size w Z) (al : w.heap.size + 1 < Z.heap.size) {t G D : Nat} (ht : t < S.gens.length) (hD1 : 1 ≤ D) (hG : G = S.gen t) (hD : S.depth t = D) {v : Value} {ws : List Int} (hws : 1 ≤ ws.length ∧ ws.length ≤ 100)
    (hs : Z.heap.size ≤ X.heap.size) (ho : ∀ i, i ≠ m.gb → i ≠ m.rb → i < Z.heap.size → X.heap[i]? = Z.heap[i]?) (hB : X.os = Z.os ∧ X.tape = Z.tape ∧ X.output = Z.output)
    (hg : X.ownsRow 0 39 1 (gsV m S) S.gens.length (natL (S.gens.set t (G + 1)))) (hm : MapIs X m.rb (64 + (k + 1)) (pushV m.rv t (G + 1) D v)) (hv : X.ownsRow Z.heap.size 39 1 v ws.length (u64V ws)) :
    DoPost (k + 1) w m ({ S with gens := S.gens.set t (G + 1), recs := pushS S t ws }, { refS 0 with gen := G + 1 }) (.returned (anV { refS 0 with gen := G + 1 } nilS nilS))
      ((((((((((((X.setCell ⟨w.heap.size + 1, 0, none⟩ (.int .i64 0)).setCell ⟨w.heap.size + 1, 1, none⟩ (.int .i64 0)).setCell ⟨w.heap.size + 1, 2, none⟩ (.int .u64 (G + 1 : Nat))).setCell ⟨w.heap.size + 1, 3, none⟩ (.int .i64 0)).setCell ⟨w.heap.size + 1, 4, none⟩ (.int .u64 0)).setCell ⟨w.heap.size + 1, 5, none⟩ (.int .i64 0)).setCell ⟨w.heap.size + 1, 6, none⟩ (.int .i64 0)).setCell ⟨w.heap.size + 1, 7, none⟩ (.bool false)).setCell ⟨w.heap.size + 1, 8, none⟩ (.int .i64 0)).setCell ⟨w.heap.size + 1, 9, none⟩ (.int .u64 0)).setCell ⟨w.heap.size + 1, 10, none⟩ nilS).setCell ⟨w.heap.size + 1, 11, none⟩ nilS) := by
  have hIs := (h.below hZb).set_pub hk1 ht hD1 hG hD hws hs ho hg hm hv
  have hTu : Turns Z X m { m with rv := pushV m.rv t (G + 1) D v } := ⟨hB.1, hB.2.1, hB.2.2, hs, fun i hi hn => ho i (fun e => hn (.inr (.inr (.inl e)))) (fun e => hn (.inr (.inl e))) hi, fun _ hi => .inl hi, fun i hi => by
    rcases hi with hi | ⟨t', g, u, hu, hq⟩
    · exact .inl (.inl hi)
    · simp only [pushV] at hu
      by_cases h1 : t' = t
      · rw [if_pos h1] at hu
        by_cases h2 : D ≤ G + 1 ∧ g = G + 1 - D
        · rw [if_pos h2] at hu; cases hu
        · rw [if_neg h2] at hu
          by_cases h3 : g = G + 1
          · rw [if_pos h3] at hu
            cases hu
            exact .inr (hv.lt i hq).1
          · rw [if_neg h3] at hu
            exact .inl (.inr ⟨t', g, u, hu, hq⟩)
      · rw [if_neg h1] at hu
        exact .inl (.inr ⟨t', g, u, hu, hq⟩), rfl⟩
  obtain ⟨s1, s2, s3, s4⟩ := set12_same X (w.heap.size + 1) (.int .i64 0) (.int .i64 0) (.int .u64 (G + 1 : Nat)) (.int .i64 0) (.int .u64 0) (.int .i64 0) (.int .i64 0) (.bool false) (.int .i64 0) (.int .u64 0) nilS nilS
  exact post_up (a := { refS 0 with gen := G + 1 }) h.lt hZb (Nat.le_succ _) al hIs hTu (World.ownsRow_nil _ _ _ _) (World.ownsRow_nil _ _ _ _) (fun q hq => by rcases hq with hq | hq <;> cases hq) s1 s2 s3 s4 (fun i hi => set12_other hi _ _ _ _ _ _ _ _ _ _ _ _)

set_option maxRecDepth 100000 in
set_option maxHeartbeats 1600000 in
theorem pub_do {k : Nat} {m : Mem} {S : Bd} (task : Nat) (c : Cl) (sv : Value) (A' : Option Addr) (n' cA' : Nat) (w : World) (h : IsBd k w m S) (hk : k + 1 ≤ 1000000) (htask : task < S.tasks)
    (hn' : n' = c.words.length) (hn1 : n' ≤ 100) (hw : Rd w (.slice A' n' cA') 1 n' (u64V c.words)) (hown : ∀ q, (Value.slice A' n' cA').ownBlock = some q → ¬ m.own q) :
    Calls Tryz.prog 31 #[.pointer (some ⟨m.bb, 0, none⟩), .int .i64 task, clV c sv (.slice A' n' cA')] w fun e w' => DoPost (k + 1) w m (pubS S task c) e w' := by
  have hB := h.blk
  have H := hide (h.mono (Nat.le_succ k) hk)
  have h5 : w.cell? ⟨m.bb, 5, none⟩ = some (.slice (some ⟨m.gb, 0, none⟩) S.gens.length m.gc) := (row13 hB).2.2.2.2.2.1
  have HH := hide (fun (w' : World) (hb : Below w.heap.size w w') => has_any m.bb S.gens.length m.gc m.gb c.topic w' ((hb.cell (p := ⟨m.bb, 5, none⟩) (block_lt hB)).trans h5))
  have hhas : S.has c.topic = (decide (0 ≤ c.topic) && decide (c.topic < S.gens.length)) := rfl
  rw [← hhas] at HH
  have HM := hide h.lt
  have ht8 : task < 8 := by have := h.inv.tasks; omega
  cases hh : S.has c.topic with
  | false =>
    rw [hh] at HH
    have hcp : pubS S task c = (S, refS 14) := by rw [pubS, if_pos hh]
    rw [hcp]
    clear h hcp hh hhas hB h5 hn' hw hown
    go_enter Tryz.func31, Tryz.ntmps31
    go_wp2_with fail
    refine (HH.out _ (below_new2 w _ _)).mono ?_
    rintro e w' ⟨rfl, rfl⟩
    go_wp2_with fail
    refine (refused_any 14 _).mono ?_
    rintro e w2 ⟨rfl, hb2⟩
    obtain ⟨hc2, hf2, hz2⟩ := bcell hb2
    go_wp2
    have hresl : Tryz.f31.results = #[.cell 6 44] := by kernel_rfl
    refine bodyPost_ret (v := anR 14) ?_ rfl ?_
    · simp only [results, hresl]
      go_simp
    · exact post_plain H.out (set12_below ((below_new2 w _ _).trans (hb2.mono (by simp; omega))) (Nat.le_succ _) _ _ _ _ _ _ _ _ _ _ _ _) rfl rfl
  | true =>
    rw [hh] at HH
    obtain ⟨t, ht, htl⟩ : ∃ t : Nat, c.topic = t ∧ t < S.gens.length := ⟨c.topic.toNat, by simp [Bd.has] at hh; omega, by simp [Bd.has] at hh; omega⟩
    have hO := h.inv.owns t
    have hnt := h.inv.glen
    have hnt2 := h.inv.tlen
    have hl := fun (w' : World) (hw : w'.heap[m.ob]? = w.heap[m.ob]?) => h.look_own (w' := w') (t := t) (by omega) hw
    have HL := hide hl
    have h6 : w.cell? ⟨m.bb, 6, none⟩ = some (.map (some m.ob)) := (row13 hB).2.2.2.2.2.2.1
    have hbbl := block_lt hB
    have hobl := h.lt m.ob (.inl (.inr (.inr (.inr (.inl rfl)))))
    have hbit := i64_shr_and (S.own t) task hO
    have hone : pubS S task c = if (S.own t).testBit task = false then (S, refS 18) else if (c.words.length : Int) ≠ S.words t then (S, refS 17)
        else ({ S with gens := S.gens.set t (S.gen t + 1), recs := pushS S t c.words }, { refS 0 with gen := S.gen t + 1 }) := by
      rw [pubS, if_neg (by rw [hh]; simp), ht, Int.toNat_natCast]
    rw [hone]
    obtain ⟨O, hOe⟩ : ∃ O, O = S.own t := ⟨_, rfl⟩
    rw [← hOe] at hbit HL
    rw [← hOe]
    cases hb : O.testBit task with
    | false =>
      rw [hb] at hbit
      simp only [Bool.false_eq_true, if_false] at hbit
      rw [if_pos rfl]
      obtain ⟨kd, tp, sb, cp, rk, so, md, fl, fr, set, ws⟩ := c
      simp only at ht HH
      subst ht
      clear h hh hhas hB h5 hO hnt hnt2 hb hOe hl hone hn' hw hown
      go_enter Tryz.func31, Tryz.ntmps31
      go_wp2_with fail
      refine (HH.out _ (below_new2 w _ _)).mono ?_
      rintro e w' ⟨rfl, rfl⟩
      go_wp2_with fail
      obtain ⟨Z, hZ⟩ : ∃ Z, Z = (w.alloc (clO ⟨kd, t, sb, cp, rk, so, md, fl, fr, set, ws⟩ sv (.slice A' n' cA'))).alloc anZ := ⟨_, rfl⟩
      have hZb : Below w.heap.size w Z := by rw [hZ]; exact below_new2 w _ _
      have hZ5 : Z.heap[w.heap.size]? = some (clO ⟨kd, t, sb, cp, rk, so, md, fl, fr, set, ws⟩ sv (.slice A' n' cA')) := by rw [hZ]; exact (heap_two w _ _).1
      have hZ6 : Z.heap[w.heap.size + 1]? = some anZ := by rw [hZ]; exact (heap_two w _ _).2
      rw [← hZ]
      have HZ := hide hZ
      clear hZ
      obtain ⟨t0, t1, t2, t3, t4, t5, t6, t7, t8, t9, t10, tf, tl⟩ := row11 hZ5
      obtain ⟨a0, a1, a2, a3, a4, a5, a6, a7, a8, a9, a10, a11, af, al⟩ := row12 hZ6
      have q6 := (hZb.cell (p := ⟨m.bb, 6, none⟩) hbbl).trans h6
      have hqb : m.bb < Z.heap.size := Nat.lt_of_lt_of_le hbbl hZb.size
      have hlz := fun j => HL.out (Z.drewN j) (hZb.block m.ob hobl)
      go_quiet (fail)
      clear hlz
      go_wp2_with fail
      refine (refused_any 18 _).mono ?_
      rintro e w2 ⟨rfl, hb2⟩
      obtain ⟨b0, b1, b2, b3, b4, b5, b6, b7, b8, b9, b10, b11, bf, bl⟩ := row12 ((hb2.block (w.heap.size + 1) al).trans hZ6)
      go_wp2
      have hresl : Tryz.f31.results = #[.cell 6 44] := by kernel_rfl
      refine bodyPost_ret (v := anR 18) ?_ rfl ?_
      · simp only [results, hresl]
        go_simp
      · have hbz2 : Below w.heap.size w w2 := below2 hZb ⟨hb2.os, hb2.tape, hb2.output, hb2.size, hb2.block⟩
        exact post_plain H.out (set12_below hbz2 (Nat.le_succ _) _ _ _ _ _ _ _ _ _ _ _ _) rfl rfl
    | true =>
      rw [hb] at hbit
      simp only [if_true] at hbit
      rw [if_neg (by simp)]
      obtain ⟨tb, to, tc, p, htv, htro, htbl, hp, hpw, hpd, hpb, hcw, hcd⟩ := h.topic htl
      rw [hpw]
      have h1c : w.cell? ⟨m.bb, 1, none⟩ = some (.slice (some ⟨tb, to, none⟩) S.gens.length tc) := by rw [← htv]; exact (row13 hB).2.1
      have h4c : w.cell? ⟨m.bb, 4, none⟩ = some (.map (some m.rb)) := (row13 hB).2.2.2.2.1
      have hG := h.gen_cell htl
      have hgk := h.gen_le t
      have hkk := h.kk
      obtain ⟨pw, hpwe⟩ : ∃ x, x = p.2.1 := ⟨_, rfl⟩
      obtain ⟨pd, hpde⟩ : ∃ x, x = p.2.2 := ⟨_, rfl⟩
      rw [← hpwe] at hcw hpb hpw
      rw [← hpde] at hcd hpb hpd
      rw [← hpwe]
      rw [← hn']
      obtain ⟨N, hN⟩ : ∃ N, N = S.gens.length := ⟨_, rfl⟩
      by_cases hlen : (n' : Int) = pw
      · rw [if_neg (by simpa using hlen)]
        obtain ⟨D, hDe⟩ : ∃ D : Nat, pd = D := ⟨pd.toNat, by omega⟩
        subst hDe
        obtain ⟨G, hGe⟩ : ∃ G, G = S.gen t := ⟨_, rfl⟩
        obtain ⟨G1, hG1⟩ : ∃ x, x = G + 1 := ⟨_, rfl⟩
        rw [← hGe] at hG hgk
        rw [← hGe, ← hG1]
        have hGf : w.frozen? ⟨m.gb, t, none⟩ = false := by
          rcases h.gens.2 with ⟨hv, -⟩ | ⟨g', cap', cur, hv, -, hg, -⟩
          · cases hv
          · cases hv; exact frozen_of hg t
        have hw1 : IntKind.u64.wrap ((G : Int) + 1) = (G1 : Int) := by rw [IntKind.wrap_u64]; omega
        have hwD : IntKind.u64.wrap (D : Int) = (D : Int) := by rw [IntKind.wrap_u64]; omega
        have hgbl := block_lt_of_cell hG
        have hrbl := h.lt m.rb (.inl (.inr (.inl rfl)))
        have hnd := h.nd
        simp only [List.nodup_cons, List.mem_cons, List.not_mem_nil, or_false, not_or] at hnd
        have hbg : m.bb ≠ m.gb := hnd.1.2.1
        have hbr : m.bb ≠ m.rb := hnd.1.1
        have hrg : m.rb ≠ m.gb := hnd.2.1.1
        have htg : tb ≠ m.gb := fun e => h.disj m.gb (.inr (.inr (.inl rfl))) (e ▸ htro)
        have htr : tb ≠ m.rb := fun e => h.disj m.rb (.inr (.inl rfl)) (e ▸ htro)
        have ht64 : t < 64 := by omega
        have hws1 : 1 ≤ n' := by omega
        have HI := hide h
        have HW := hide hw
        have HN' := hide hn'
        have HO := hide (fun q hq => hown q hq)
        have HGe := hide hGe
        have HG1 := hide hG1
        have hGb : G1 ≤ 1000001 := by omega
        have HD := hide hpd
        have htN : (t : Int) < (N : Int) := by omega
        have HN := hide hN
        rw [← hN] at h1c h5 htl
        have hlen' : (n' : Int) = pw := hlen
        subst hlen'
        obtain ⟨kd, tp, sb, cp, rk, so, md, fl, fr, set, ws⟩ := c
        simp only at ht HH
        subst ht
        clear h hh hhas hB hO hnt hnt2 hb hOe hl hone hn' hw hown hN hgk hkk hp hpw hpd htv hpwe hpde hnd hGe hG1 hlen
        go_enter Tryz.func31, Tryz.ntmps31
        go_wp2_with fail
        refine (HH.out _ (below_new2 w _ _)).mono ?_
        rintro e w' ⟨rfl, rfl⟩
        go_wp2_with fail
        obtain ⟨Z, hZ⟩ : ∃ Z, Z = (w.alloc (clO ⟨kd, t, sb, cp, rk, so, md, fl, fr, set, ws⟩ sv (.slice A' n' cA'))).alloc anZ := ⟨_, rfl⟩
        have hZb : Below w.heap.size w Z := by rw [hZ]; exact below_new2 w _ _
        have hZ5 : Z.heap[w.heap.size]? = some (clO ⟨kd, t, sb, cp, rk, so, md, fl, fr, set, ws⟩ sv (.slice A' n' cA')) := by rw [hZ]; exact (heap_two w _ _).1
        have hZ6 : Z.heap[w.heap.size + 1]? = some anZ := by rw [hZ]; exact (heap_two w _ _).2
        rw [← hZ]
        have HZ := hide hZ
        clear hZ
        obtain ⟨t0, t1, t2, t3, t4, t5, t6, t7, t8, t9, t10, tf, tl⟩ := row11 hZ5
        obtain ⟨a0, a1, a2, a3, a4, a5, a6, a7, a8, a9, a10, a11, af, al⟩ := row12 hZ6
        have q6 := (hZb.cell (p := ⟨m.bb, 6, none⟩) hbbl).trans h6
        have q1 := (hZb.cell (p := ⟨m.bb, 1, none⟩) hbbl).trans h1c
        have qw := (hZb.cell (p := ⟨tb, to + t * 3 + 1, none⟩) htbl).trans hcw
        have hqb : m.bb < Z.heap.size := Nat.lt_of_lt_of_le hbbl hZb.size
        have hqt : tb < Z.heap.size := Nat.lt_of_lt_of_le htbl hZb.size
        have hqg : m.gb < Z.heap.size := Nat.lt_of_lt_of_le hgbl hZb.size
        have hlz := fun j => HL.out (Z.drewN j) (hZb.block m.ob hobl)
        go_quiet (fail)
        clear hlz
        go_wp2_with fail
        go_quiet (fail)
        go_wp2_with fail
        generalize hV : (Z.drewN _).drewN _ = V
        have hVB : Below Z.heap.size Z V := by rw [← hV]; exact below_drewN (below_drewN (Below.refl _ Z) _) _
        have hVh : V.heap = Z.heap := by rw [← hV]; rfl
        clear hV
        have v5 : V.cell? ⟨m.bb, 5, none⟩ = some (.slice (some ⟨m.gb, 0, none⟩) N m.gc) := (hVB.cell (p := ⟨m.bb, 5, none⟩) hqb).trans ((hZb.cell (p := ⟨m.bb, 5, none⟩) hbbl).trans h5)
        have v1 : V.cell? ⟨w.heap.size, 1, none⟩ = some (.int .i64 t) := (hVB.cell (p := ⟨w.heap.size, 1, none⟩) tl).trans t1
        have vg : V.cell? ⟨m.gb, t, none⟩ = some (.int .u64 G) := (hVB.cell (p := ⟨m.gb, t, none⟩) hqg).trans ((hZb.cell (p := ⟨m.gb, t, none⟩) hgbl).trans hG)
        have vf : V.frozen? ⟨m.gb, t, none⟩ = false := (hVB.frozen (p := ⟨m.gb, t, none⟩) hqg).trans ((hZb.frozen (p := ⟨m.gb, t, none⟩) hgbl).trans hGf)
        have hvb : m.bb < V.heap.size := Nat.lt_of_lt_of_le hqb hVB.size
        have hvg : m.gb < V.heap.size := Nat.lt_of_lt_of_le hqg hVB.size
        have hvt : w.heap.size < V.heap.size := Nat.lt_of_lt_of_le tl hVB.size
        have HVh := hide hVh
        clear q6 q1 qw hVh
        go_region
        generalize hU : (V.setCell ⟨m.gb, t, none⟩ (.int .u64 G1)).drew = U
        have hUo : ∀ i, i ≠ m.gb → U.heap[i]? = Z.heap[i]? := fun i hi => by
          rw [← hU, ← HVh.out]
          exact Below.heap_setCell V ⟨m.gb, t, none⟩ _ _ hi
        have hUs : U.heap.size = Z.heap.size := by rw [← hU, ← HVh.out]; show (V.setCell _ _).heap.size = _; simp
        have hUB : U.os = Z.os ∧ U.tape = Z.tape ∧ U.output = Z.output := by rw [← hU]; exact ⟨hVB.os, hVB.tape, hVB.output⟩
        have hUg : U.ownsRow 0 39 1 (.slice (some ⟨m.gb, 0, none⟩) N m.gc) N (natL (S.gens.set t G1)) := by
          rw [← hU, ← natL_set]
          have h1 : V.ownsRow 0 39 1 (.slice (some ⟨m.gb, 0, none⟩) N m.gc) N (natL S.gens) := by
            have := (HI.out.below (hZb.trans (hVB.mono hZb.size))).gens
            rw [HN.out]
            exact this
          exact own_set1 h1 htl
        clear hU v5 v1 vg vf hvb hvg hvt
        have u5 : U.cell? ⟨m.bb, 5, none⟩ = some (.slice (some ⟨m.gb, 0, none⟩) N m.gc) := (World.cell?_of_block (a := ⟨m.bb, 5, none⟩) (hUo _ hbg)).trans ((hZb.cell (p := ⟨m.bb, 5, none⟩) hbbl).trans h5)
        have u4 : U.cell? ⟨m.bb, 4, none⟩ = some (.map (some m.rb)) := (World.cell?_of_block (a := ⟨m.bb, 4, none⟩) (hUo _ hbg)).trans ((hZb.cell (p := ⟨m.bb, 4, none⟩) hbbl).trans h4c)
        have u1 : U.cell? ⟨m.bb, 1, none⟩ = some (.slice (some ⟨tb, to, none⟩) N tc) := (World.cell?_of_block (a := ⟨m.bb, 1, none⟩) (hUo _ hbg)).trans ((hZb.cell (p := ⟨m.bb, 1, none⟩) hbbl).trans h1c)
        have ud : U.cell? ⟨tb, to + t * 3 + 2, none⟩ = some (.int .i64 D) := (World.cell?_of_block (a := ⟨tb, to + t * 3 + 2, none⟩) (hUo _ htg)).trans ((hZb.cell (p := ⟨tb, to + t * 3 + 2, none⟩) htbl).trans hcd)
        have hwg : w.heap.size ≠ m.gb := by omega
        have hwg1 : w.heap.size + 1 ≠ m.gb := by omega
        have ut1 : U.cell? ⟨w.heap.size, 1, none⟩ = some (.int .i64 t) := (World.cell?_of_block (a := ⟨w.heap.size, 1, none⟩) (hUo _ hwg)).trans t1
        have ut10 : U.cell? ⟨w.heap.size, 10, none⟩ = some (.slice A' n' cA') := (World.cell?_of_block (a := ⟨w.heap.size, 10, none⟩) (hUo _ hwg)).trans t10
        have ug : U.cell? ⟨m.gb, t, none⟩ = some (.int .u64 G1) := by
          obtain ⟨b0, o0, c0, hv0, -, -, -, hc0⟩ := (Rd.of_own hUg).open_ (by omega)
          cases hv0
          have := hc0 t _ (natL_at (S.gens.set t G1) t G1 (by rw [List.getElem?_set]; simp; have := HN.out; omega))
          simpa using this
        have hub : m.bb < U.heap.size := by omega
        have hugl : m.gb < U.heap.size := by omega
        have hut : w.heap.size < U.heap.size := by omega
        have hutb : tb < U.heap.size := by omega
        clear t0 t1 t2 t3 t4 t5 t6 t7 t8 t9 t10 a0 a1 a2 a3 a4 a5 a6 a7 a8 a9 a10 a11 h5 h4c h1c hcd hcw hG hGf h6 hbit
        have HUg := hide hUg
        have HUo := hide hUo
        have HUs := hide hUs
        clear hUg hUo hUs
        go_wp2_with fail
        go_quiet (fail)
        go_wp2_with fail
        generalize hY : U.drewN _ = Y
        have hYh : Y.heap = U.heap := by rw [← hY]; rfl
        have hYB : Y.os = Z.os ∧ Y.tape = Z.tape ∧ Y.output = Z.output := by rw [← hY]; exact hUB
        have HYh := hide hYh
        clear hY hYh
        have hwr : w.heap.size ≠ m.rb := by omega
        have hwr1 : w.heap.size + 1 ≠ m.rb := by omega
        have HK : ∀ w' : World, (∀ i, i ≠ m.rb → i < U.heap.size → w'.heap[i]? = U.heap[i]?) → w'.cell? ⟨m.bb, 4, none⟩ = some (.map (some m.rb)) ∧ w'.cell? ⟨w.heap.size, 1, none⟩ = some (.int .i64 t) ∧ w'.cell? ⟨w.heap.size, 10, none⟩ = some (.slice A' n' cA') :=
          fun w' hw' => ⟨(World.cell?_of_block (a := ⟨m.bb, 4, none⟩) (hw' _ hbr hub)).trans u4, (World.cell?_of_block (a := ⟨w.heap.size, 1, none⟩) (hw' w.heap.size hwr hut)).trans ut1, (World.cell?_of_block (a := ⟨w.heap.size, 10, none⟩) (hw' w.heap.size hwr hut)).trans ut10⟩
        have hYd : ∀ i : Nat, Y.drew.heap[i]? = U.heap[i]? := fun i => congrArg (fun a : Array Obj => a[i]?) HYh.out
        have hYsz : Y.drew.heap.size = U.heap.size := congrArg Array.size HYh.out
        have hKd := HK Y.drew (fun i _ _ => hYd i)
        have hRW : Rd Y.drew (.slice A' n' cA') 1 n' (u64V ws) := HW.out.keepAt (by rw [hYsz, HUs.out]; exact hZb.size) (fun q hq => by
          have hq1 : q < w.heap.size := by
            obtain ⟨b0, o0, c0, hv0, -, -, hb0, -⟩ := HW.out.open_ hws1
            cases hv0; cases hq; exact hb0
          rw [hYd, HUo.out q (fun e => HO.out q hq (.inr (.inr (.inl e)))), hZb.block q hq1])
        have HCl := hide (clone_u64 A' n' cA' ws Y.drew HN'.out hn1 (fun h0 => by omega) hRW)
        have hMy : MapIs Y.drew m.rb (64 + k) m.rv := HI.out.recs.keep ((hYd _).trans ((HUo.out _ hrg).trans (hZb.block _ hrbl)))
        have HMy := hide hMy
        have HYd := hide hYd
        have HYsz := hide hYsz
        have hk64 : 64 + k < maxLen := by unfold maxLen; omega
        clear hRW hMy hYd hYsz
        go_region_held3 (fun w' => w'.cell? ⟨m.bb, 4, none⟩ = some (.map (some m.rb)) ∧ w'.cell? ⟨w.heap.size, 1, none⟩ = some (.int .i64 t) ∧ w'.cell? ⟨w.heap.size, 10, none⟩ = some (.slice A' n' cA'))
          (first | with_reducible assumption | with_reducible exact hKd)
          (first | (go_at_call 63; refine HCl.out.mono ?_; rintro e w2 ⟨v, rfl, hown2, hb2⟩; obtain ⟨Av, kv, rfl, -⟩ := (Rd.of_own hown2).shape; have hK2 := HK w2 (fun i _ hi => (hb2.block i (by rw [HYsz.out]; exact hi)).trans (HYd.out i)); obtain ⟨W9, hMU, hM9, hturn9⟩ := (HMy.out.keep (hb2.block m.rb (by rw [HYsz.out, HUs.out]; exact Nat.lt_of_lt_of_le hrbl hZb.size))).store (T := 73) hk64 und_recs (t := t) (g := G1) (by omega) (by omega) (.slice Av n' kv); have hK9 := HK W9 (fun i hi hlt => (hturn9.grown.block i (Nat.lt_of_lt_of_le (by rw [HYsz.out]; exact hlt) hb2.size) (fun e => hi (Option.some.inj e))).trans ((hb2.block i (by rw [HYsz.out]; exact hlt)).trans (HYd.out i)))))
        have h9o : ∀ i, i ≠ m.rb → i < U.heap.size → W9.heap[i]? = U.heap[i]? := fun i hi hlt => (hturn9.grown.block i (Nat.lt_of_lt_of_le (by rw [HYsz.out]; exact hlt) hb2.size) (fun e => hi (Option.some.inj e))).trans ((hb2.block i (by rw [HYsz.out]; exact hlt)).trans (HYd.out i))
        have h9s : U.heap.size ≤ W9.heap.size := Nat.le_trans (by rw [← HYsz.out]; exact hb2.size) hturn9.grown.size
        have h9B : W9.os = Z.os ∧ W9.tape = Z.tape ∧ W9.output = Z.output := by
          have hg := hturn9.grown
          exact ⟨hg.os.trans (hb2.os.trans hYB.1), hg.tape.trans (hb2.tape.trans hYB.2.1), hg.output.trans (hb2.output.trans hYB.2.2)⟩
        have h9v : W9.ownsRow Z.heap.size 39 1 (.slice Av n' kv) n' (u64V ws) := by
          have h1 : w2.ownsRow Z.heap.size 39 1 (.slice Av n' kv) n' (u64V ws) := own_base hown2 (by rw [HYsz.out, HUs.out]; exact Nat.le_refl _)
          refine own_keepAt h1 (fun q hq => hturn9.grown.block q (h1.lt q hq).2 (fun e => ?_))
          have := (h1.lt q hq).1
          have h3 := Option.some.inj e
          omega
        clear hMU hturn9 hb2 hown2 hK2 hK9 hKd HK u4 ut10
        have x1 : W9.cell? ⟨m.bb, 1, none⟩ = some (.slice (some ⟨tb, to, none⟩) N tc) := (World.cell?_of_block (a := ⟨m.bb, 1, none⟩) (h9o _ hbr hub)).trans u1
        have x4 : W9.cell? ⟨m.bb, 4, none⟩ = some (.map (some m.rb)) := (World.cell?_of_block (a := ⟨m.bb, 4, none⟩) (h9o _ hbr hub)).trans (by
          have hh := (row13 HI.out.blk).2.2.2.2.1
          exact (World.cell?_of_block (a := ⟨m.bb, 4, none⟩) ((HUo.out _ hbg).trans (hZb.block _ hbbl))).trans hh)
        have xt : W9.cell? ⟨w.heap.size, 1, none⟩ = some (.int .i64 t) := (World.cell?_of_block (a := ⟨w.heap.size, 1, none⟩) (h9o w.heap.size hwr hut)).trans ut1
        have xd : W9.cell? ⟨tb, to + t * 3 + 2, none⟩ = some (.int .i64 D) := (World.cell?_of_block (a := ⟨tb, to + t * 3 + 2, none⟩) (h9o _ htr hutb)).trans ud
        have xb : m.bb < W9.heap.size := Nat.lt_of_lt_of_le hub h9s
        have xl : w.heap.size < W9.heap.size := Nat.lt_of_lt_of_le hut h9s
        have xtb : tb < W9.heap.size := Nat.lt_of_lt_of_le hutb h9s
        have h96 : W9.heap[w.heap.size + 1]? = some anZ := (h9o _ hwr1 (by rw [HUs.out]; exact al)).trans ((HUo.out _ hwg1).trans hZ6)
        have h9g : W9.ownsRow 0 39 1 (.slice (some ⟨m.gb, 0, none⟩) N m.gc) N (natL (S.gens.set t G1)) := own_keepAt HUg.out (fun q hq => by cases hq; exact h9o _ (Ne.symm hrg) hugl)
        have H9o := hide h9o
        have H9s := hide h9s
        have H9v := hide h9v
        have H9g := hide h9g
        have HM9 := hide hM9
        clear h9o h9s h9v h9g hM9 u5 u1 ud ut1 ug
        go_wp2_with fail
        go_quiet (fail)
        generalize hX : W9.drewN _ = X
        have hXh : X.heap = W9.heap := by rw [← hX]; rfl
        have hXB : X.os = Z.os ∧ X.tape = Z.tape ∧ X.output = Z.output := by rw [← hX]; exact h9B
        have hX6 : X.heap[w.heap.size + 1]? = some anZ := by rw [hXh]; exact h96
        have HXh := hide hXh
        clear hX hXh
        by_cases hge : D ≤ G1
        · obtain ⟨Q, hQ⟩ : ∃ Q, Q = G1 - D := ⟨_, rfl⟩
          have hwQ : IntKind.u64.wrap ((G1 : Int) - (D : Int)) = (Q : Int) := by rw [IntKind.wrap_u64]; omega
          have HQ := hide hQ
          have hQb : Q ≤ 1000001 := by omega
          clear hQ
          have y4 : X.cell? ⟨m.bb, 4, none⟩ = some (.map (some m.rb)) := (World.cell?_of_block (a := ⟨m.bb, 4, none⟩) (congrArg (fun a : Array Obj => a[m.bb]?) HXh.out)).trans x4
          have yt : X.cell? ⟨w.heap.size, 1, none⟩ = some (.int .i64 t) := (World.cell?_of_block (a := ⟨w.heap.size, 1, none⟩) (congrArg (fun a : Array Obj => a[w.heap.size]?) HXh.out)).trans xt
          have yb : m.bb < X.heap.size := by rw [HXh.out]; exact xb
          have yl : w.heap.size < X.heap.size := by rw [HXh.out]; exact xl
          clear x1 x4 xt xd
          go_wp2_with fail
          refine wp_region_ext_tail 10 (by kernel_rfl) (by kernel_rfl) (fun _ _ d _ _ h => by cases d <;> exact h) ?_
          simp only [List.take_succ_cons, List.take_zero, List.drop_succ_cons, List.drop_zero]
          repeat (first
            | go_big_quiet_skip
            | (go_big_quiet_want
               first
                 | (apply quiet_val
                    · intro wq hq
                      have hcq := hq.cells
                      have hzq := hq.lift
                      go_simp
                      try go_bits
                      first | done | with_reducible rfl
                    (try simp only [Act.put, List.setIfInBounds_toArray, List.set_cons_zero, List.set_cons_succ])
                    go_big_quiet_on)))
          refine wpQuiet_nil ?_
          intro wz hz
          have hzr : wz.heap[m.rb]? = W9.heap[m.rb]? := (hz.below.block m.rb (by rw [HXh.out]; exact HM9.out.lt)).trans (congrArg (fun a : Array Obj => a[m.rb]?) HXh.out)
          obtain ⟨W10, hdel, hM10, hturn10⟩ := (HM9.out.keep hzr).drop (T := 73) und_recs (t := t) (g := Q) (by omega) (by omega) 0
          have hg10 := hturn10.grown
          have hz6 : W10.heap[w.heap.size + 1]? = some anZ := (hg10.block _ (block_lt ((hz.below.block _ (block_lt hX6)).trans hX6)) (fun e => hwr1 (Option.some.inj e))).trans ((hz.below.block _ (block_lt hX6)).trans hX6)
          obtain ⟨b0, b1, b2, b3, b4, b5, b6, b7, b8, b9, b10, b11, bf, bl⟩ := row12 hz6
          clear y4 yt hX6
          go_wp2
          have hresl : Tryz.f31.results = #[.cell 6 44] := by kernel_rfl
          refine bodyPost_ret (v := anV { refS 0 with gen := G1 } nilS nilS) ?_ rfl ?_
          · simp only [results, hresl]
            go_simp
            simp [refS, rg0]
          · have hG1 := HG1.out
            have hQ := HQ.out
            subst hQ
            subst hG1
            have hsz : X.heap.size = W9.heap.size := by rw [HXh.out]
            have hX0 : ∀ i : Nat, i ≠ m.rb → i < W9.heap.size → W10.heap[i]? = W9.heap[i]? := fun i h1 h2 =>
              (hg10.block i (Nat.lt_of_lt_of_le (by rw [hsz]; exact h2) hz.below.size) (fun e => h1 (Option.some.inj e))).trans ((hz.below.block i (by rw [hsz]; exact h2)).trans (congrArg (fun a : Array Obj => a[i]?) HXh.out))
            have hz10 : W9.heap.size ≤ W10.heap.size := Nat.le_trans (by rw [← hsz]; exact hz.below.size) hg10.size
            have hZ9 : Z.heap.size ≤ W9.heap.size := by rw [← HUs.out]; exact H9s.out
            refine pub_end HI.out hk hZb al (by rw [← HN.out]; exact htl) (by omega) HGe.out HD.out (v := .slice Av n' kv) (ws := ws) (by rw [← HN'.out]; omega) (Nat.le_trans hZ9 hz10) (fun i h1 h2 h3 => ?_) ?_ ?_ ?_ ?_
            · rw [hX0 i h2 (Nat.lt_of_lt_of_le h3 hZ9), H9o.out i h2 (by rw [HUs.out]; exact h3), HUo.out i h1]
            · exact ⟨hg10.os.trans (hz.below.os.trans hXB.1), hg10.tape.trans (hz.below.tape.trans hXB.2.1), hg10.output.trans (hz.below.output.trans hXB.2.2)⟩
            · have := own_keepAt H9g.out (w' := W10) (fun q hq => hX0 q (fun e => by cases hq; exact hrg e.symm) (H9g.out.lt q hq).2)
              rw [HN.out] at this
              exact this
            · rw [pushV_out _ _ _ _ _ hge]
              exact hM10
            · rw [← HN'.out]
              exact own_keepAt H9v.out (fun q hq => hX0 q (fun e => by have := (H9v.out.lt q hq).1; have h3 : m.rb < Z.heap.size := Nat.lt_of_lt_of_le hrbl hZb.size; omega) (H9v.out.lt q hq).2)
        · have hX0 : ∀ i : Nat, X.heap[i]? = W9.heap[i]? := fun i => congrArg (fun a : Array Obj => a[i]?) HXh.out
          obtain ⟨b0, b1, b2, b3, b4, b5, b6, b7, b8, b9, b10, b11, bf, bl⟩ := row12 hX6
          have HX0 := hide hX0
          clear hX0
          go_wp2
          have hresl : Tryz.f31.results = #[.cell 6 44] := by kernel_rfl
          refine bodyPost_ret (v := anV { refS 0 with gen := G1 } nilS nilS) ?_ rfl ?_
          · simp only [results, hresl]
            go_simp
            simp [refS, rg0]
          · have hG1 := HG1.out
            subst hG1
            refine pub_end HI.out hk hZb al (by rw [← HN.out]; exact htl) (by omega) HGe.out HD.out (v := .slice Av n' kv) (ws := ws) (by rw [← HN'.out]; omega) ?_ (fun i h1 h2 h3 => ?_) hXB ?_ ?_ ?_
            · rw [HXh.out, ← HUs.out]; exact H9s.out
            · rw [HX0.out i, H9o.out i h2 (by rw [HUs.out]; exact h3), HUo.out i h1]
            · have := own_keepAt H9g.out (w' := X) (fun q _ => HX0.out q)
              rw [HN.out] at this
              exact this
            · rw [pushV_in _ _ _ _ _ hge]
              exact HM9.out.keep (HX0.out _)
            · rw [← HN'.out]
              exact own_keepAt H9v.out (fun q _ => HX0.out q)
      · rw [if_pos hlen]
        have HN := hide hN
        rw [← hN] at h1c htl
        obtain ⟨kd, tp, sb, cp, rk, so, md, fl, fr, set, ws⟩ := c
        simp only at ht HH
        subst ht
        clear h hh hhas hB h5 hO hnt hnt2 hb hOe hl hone hn' hw hown hN hG hgk hkk hp hpw hpd hpb hcd h4c htv hpwe hpde
        go_enter Tryz.func31, Tryz.ntmps31
        go_wp2_with fail
        refine (HH.out _ (below_new2 w _ _)).mono ?_
        rintro e w' ⟨rfl, rfl⟩
        go_wp2_with fail
        obtain ⟨Z, hZ⟩ : ∃ Z, Z = (w.alloc (clO ⟨kd, t, sb, cp, rk, so, md, fl, fr, set, ws⟩ sv (.slice A' n' cA'))).alloc anZ := ⟨_, rfl⟩
        have hZb : Below w.heap.size w Z := by rw [hZ]; exact below_new2 w _ _
        have hZ5 : Z.heap[w.heap.size]? = some (clO ⟨kd, t, sb, cp, rk, so, md, fl, fr, set, ws⟩ sv (.slice A' n' cA')) := by rw [hZ]; exact (heap_two w _ _).1
        have hZ6 : Z.heap[w.heap.size + 1]? = some anZ := by rw [hZ]; exact (heap_two w _ _).2
        rw [← hZ]
        have HZ := hide hZ
        clear hZ
        obtain ⟨t0, t1, t2, t3, t4, t5, t6, t7, t8, t9, t10, tf, tl⟩ := row11 hZ5
        obtain ⟨a0, a1, a2, a3, a4, a5, a6, a7, a8, a9, a10, a11, af, al⟩ := row12 hZ6
        have q6 := (hZb.cell (p := ⟨m.bb, 6, none⟩) hbbl).trans h6
        have q1 := (hZb.cell (p := ⟨m.bb, 1, none⟩) hbbl).trans h1c
        have qw := (hZb.cell (p := ⟨tb, to + t * 3 + 1, none⟩) htbl).trans hcw
        have hqb : m.bb < Z.heap.size := Nat.lt_of_lt_of_le hbbl hZb.size
        have hqt : tb < Z.heap.size := Nat.lt_of_lt_of_le htbl hZb.size
        have hlz := fun j => HL.out (Z.drewN j) (hZb.block m.ob hobl)
        go_quiet (fail)
        clear hlz
        go_wp2_with fail
        go_quiet (fail)
        go_wp2_with fail
        refine (refused_any 17 _).mono ?_
        rintro e w2 ⟨rfl, hb2⟩
        obtain ⟨b0, b1, b2, b3, b4, b5, b6, b7, b8, b9, b10, b11, bf, bl⟩ := row12 ((hb2.block (w.heap.size + 1) al).trans hZ6)
        go_wp2
        have hresl : Tryz.f31.results = #[.cell 6 44] := by kernel_rfl
        refine bodyPost_ret (v := anR 17) ?_ rfl ?_
        · simp only [results, hresl]
          go_simp
        · have hbz2 : Below w.heap.size w w2 := below2 hZb ⟨hb2.os, hb2.tape, hb2.output, hb2.size, hb2.block⟩
          exact post_plain H.out (set12_below hbz2 (Nat.le_succ _) _ _ _ _ _ _ _ _ _ _ _ _) rfl rfl

end Go.Proofs.YtpilfhjlfbjloaaGreatDoor
