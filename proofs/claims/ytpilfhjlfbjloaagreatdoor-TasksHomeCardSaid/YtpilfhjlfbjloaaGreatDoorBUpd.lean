/-
  The walk of the blackboard's call Updated. Conditions: a blackboard in memory.
-/
import Derived.Test.YtpilfhjlfbjloaaGreatDoorBAdv
namespace Go.Proofs.YtpilfhjlfbjloaaGreatDoor
open Go.RowKit


/-- A task's row of subscriptions. -/
theorem IsBd.row {k : Nat} {w : World} {m : Mem} {S : Bd} (h : IsBd k w m S) {task : Nat} (ht : task < S.tasks) :
    ∃ A n c l, m.rows[task]? = some (.slice A n c) ∧ S.subs[task]? = some l ∧ S.subs.getD task [] = l ∧ n = l.length ∧ n ≤ 8 ∧ w.ownsRow 0 137 6 (.slice A n c) n (flatSb l) ∧ w.cell? ⟨m.sb, task, none⟩ = some (.slice A n c) ∧
      (∀ s ∈ l, s.topic < S.gens.length ∧ s.fit) := by
  have h1 := h.rlen
  have h2 := h.inv.slen
  obtain ⟨v, hv⟩ : ∃ v, m.rows[task]? = some v := ⟨m.rows[task]'(by omega), by simp⟩
  obtain ⟨l, hl⟩ : ∃ l, S.subs[task]? = some l := ⟨S.subs[task]'(by omega), by simp⟩
  have hr := h.rows task v l hv hl
  obtain ⟨A, c, rfl, -⟩ := (Rd.of_own hr).shape
  have hm := List.mem_of_getElem? hl
  have hkk := h.kk
  have hg := h.inv.glen
  refine ⟨A, l.length, c, l, hv, hl, by simp [hl], rfl, h.inv.sub8 l hm, hr, ?_, fun s hs => ?_⟩
  · rw [cell_of h.subs task]
    simpa using hv
  · have := h.inv.subs l hm s hs
    have := h.inv.tlen
    exact ⟨by omega, by unfold Sb.fit; omega⟩

set_option maxRecDepth 100000 in
set_option maxHeartbeats 1600000 in
theorem upd_do {k : Nat} {m : Mem} {S : Bd} (task : Nat) (c : Cl) (sv wv : Value) (w : World) (h : IsBd k w m S) (hk : k + 1 ≤ 1000000) (htask : task < S.tasks) :
    Calls Tryz.prog 36 #[.pointer (some ⟨m.bb, 0, none⟩), .int .i64 task, clV c sv wv] w fun e w' => DoPost (k + 1) w m (S, updS S task c) e w' := by
  have hB := h.blk
  have H := hide (h.mono (Nat.le_succ k) hk)
  have h7 : w.cell? ⟨m.bb, 7, none⟩ = some (.slice (some ⟨m.sb, 0, none⟩) S.tasks S.tasks) := (row13 hB).2.2.2.2.2.2.2.1
  have h5 : w.cell? ⟨m.bb, 5, none⟩ = some (.slice (some ⟨m.gb, 0, none⟩) S.gens.length m.gc) := (row13 hB).2.2.2.2.2.1
  have HM := hide h.lt
  have hbbl := block_lt hB
  have hsbl := block_lt h.subs
  obtain ⟨A, n, cA, l, hv, hl, hld, hn, hn8, hrow, hcell, hok⟩ := h.row htask
  obtain ⟨kd, tp, sb, cp, rk, so, md, fl, fr, set, ws⟩ := c
  obtain ⟨T, hT⟩ : ∃ T, T = S.tasks := ⟨_, rfl⟩
  rw [← hT] at h7 htask
  by_cases h0 : sb < 0
  · have hcp : updS S task ⟨kd, tp, sb, cp, rk, so, md, fl, fr, set, ws⟩ = refS 14 := by rw [updS, if_pos h0]
    rw [hcp]
    clear h hcp hB h5 hv hl hld hn hrow hcell hok hT
    go_enter Tryz.func36, Tryz.ntmps36
    go_wp2_with fail
    obtain ⟨Z, hZ⟩ : ∃ Z, Z = (w.alloc (clO ⟨kd, tp, sb, cp, rk, so, md, fl, fr, set, ws⟩ sv wv)).alloc anZ := ⟨_, rfl⟩
    have hZb : Below w.heap.size w Z := by rw [hZ]; exact below_new2 w _ _
    have hZ5 : Z.heap[w.heap.size]? = some (clO ⟨kd, tp, sb, cp, rk, so, md, fl, fr, set, ws⟩ sv wv) := by rw [hZ]; exact (heap_two w _ _).1
    have hZ6 : Z.heap[w.heap.size + 1]? = some anZ := by rw [hZ]; exact (heap_two w _ _).2
    rw [← hZ]
    have HZ := hide hZ
    clear hZ
    obtain ⟨t0, t1, t2, t3, t4, t5, t6, t7, t8, t9, t10, tf, tl⟩ := row11 hZ5
    obtain ⟨a0, a1, a2, a3, a4, a5, a6, a7, a8, a9, a10, a11, af, al⟩ := row12 hZ6
    go_quiet (fail)
    go_wp2_with fail
    refine (refused_any 14 _).mono ?_
    rintro e w2 ⟨rfl, hb2⟩
    obtain ⟨b0, b1, b2, b3, b4, b5, b6, b7, b8, b9, b10, b11, bf, bl⟩ := row12 ((hb2.block (w.heap.size + 1) al).trans hZ6)
    go_wp2
    have hresl : Tryz.f36.results = #[.cell 6 44] := by kernel_rfl
    refine bodyPost_ret (v := anR 14) ?_ rfl ?_
    · simp only [results, hresl]
      go_simp
    · have hbz2 : Below w.heap.size w w2 := below2 hZb ⟨hb2.os, hb2.tape, hb2.output, hb2.size, hb2.block⟩
      exact post_plain H.out (set12_below hbz2 (Nat.le_succ _) _ _ _ _ _ _ _ _ _ _ _ _) rfl rfl
  · by_cases h1 : (n : Int) ≤ sb
    · have hcp : updS S task ⟨kd, tp, sb, cp, rk, so, md, fl, fr, set, ws⟩ = refS 14 := by
        rw [updS, if_neg h0, hld]
        simp only
        rw [List.getElem?_eq_none (by omega)]
      rw [hcp]
      have hd0 : decide (sb < 0) = false := decide_eq_false h0
      clear h hcp hB h5 hv hl hld hn hrow hok hT
      go_enter Tryz.func36, Tryz.ntmps36
      go_wp2_with fail
      obtain ⟨Z, hZ⟩ : ∃ Z, Z = (w.alloc (clO ⟨kd, tp, sb, cp, rk, so, md, fl, fr, set, ws⟩ sv wv)).alloc anZ := ⟨_, rfl⟩
      have hZb : Below w.heap.size w Z := by rw [hZ]; exact below_new2 w _ _
      have hZ5 : Z.heap[w.heap.size]? = some (clO ⟨kd, tp, sb, cp, rk, so, md, fl, fr, set, ws⟩ sv wv) := by rw [hZ]; exact (heap_two w _ _).1
      have hZ6 : Z.heap[w.heap.size + 1]? = some anZ := by rw [hZ]; exact (heap_two w _ _).2
      rw [← hZ]
      have HZ := hide hZ
      clear hZ
      obtain ⟨t0, t1, t2, t3, t4, t5, t6, t7, t8, t9, t10, tf, tl⟩ := row11 hZ5
      obtain ⟨a0, a1, a2, a3, a4, a5, a6, a7, a8, a9, a10, a11, af, al⟩ := row12 hZ6
      have q7 := (hZb.cell (p := ⟨m.bb, 7, none⟩) hbbl).trans h7
      have qr := (hZb.cell (p := ⟨m.sb, task, none⟩) hsbl).trans hcell
      have hqb : m.bb < Z.heap.size := Nat.lt_of_lt_of_le hbbl hZb.size
      have hqs : m.sb < Z.heap.size := Nat.lt_of_lt_of_le hsbl hZb.size
      go_quiet (fail)
      go_wp2_with fail
      refine (refused_any 14 _).mono ?_
      rintro e w2 ⟨rfl, hb2⟩
      obtain ⟨b0, b1, b2, b3, b4, b5, b6, b7, b8, b9, b10, b11, bf, bl⟩ := row12 ((hb2.block (w.heap.size + 1) al).trans hZ6)
      go_wp2
      have hresl : Tryz.f36.results = #[.cell 6 44] := by kernel_rfl
      refine bodyPost_ret (v := anR 14) ?_ rfl ?_
      · simp only [results, hresl]
        go_simp
      · have hbz2 : Below w.heap.size w w2 := below2 hZb ⟨hb2.os, hb2.tape, hb2.output, hb2.size, hb2.block⟩
        exact post_plain H.out (set12_below hbz2 (Nat.le_succ _) _ _ _ _ _ _ _ _ _ _ _ _) rfl rfl
    · obtain ⟨j, rfl, hj⟩ : ∃ j : Nat, sb = j ∧ j < n := ⟨sb.toNat, by omega, by omega⟩
      obtain ⟨b, o, c', s, hs, hvs, hn1, hn2, hbl, d0, d1, d2, d3, d4, d5⟩ := (Rd.of_own hrow).six hn hj
      cases hvs
      obtain ⟨hst, f0, f1, f2, f3, f4, f5, f6⟩ := hok s (List.mem_of_getElem? hs)
      have hG := h.gen_cell hst
      have hgk := h.gen_le s.topic
      have hkk := h.kk
      have hcp : updS S task ⟨kd, tp, j, cp, rk, so, md, fl, fr, set, ws⟩ = { refS 0 with gen := S.gen s.topic, count := countS (seeS s.cu (S.gen s.topic)) (S.gen s.topic), lost := (seeS s.cu (S.gen s.topic)).lost } := by
        rw [updS, if_neg h0, hld]
        simp only [Int.toNat_natCast]
        rw [hs]
      rw [hcp]
      obtain ⟨G, hGe⟩ : ∃ G, G = S.gen s.topic := ⟨_, rfl⟩
      rw [← hGe] at hG hgk
      rw [← hGe]
      obtain ⟨a', d', hS, hle, ha', HSee⟩ := see_some s.cu.next s.cu.cap s.cu.got s.cu.lost G f2 f3 f4 f6 (by omega)
      have hcu : s.cu = ⟨s.cu.next, s.cu.cap, s.cu.got, s.cu.lost⟩ := rfl
      have hsee : seeS s.cu G = ⟨a', s.cu.cap, s.cu.got, d'⟩ := by rw [hcu, hS]
      rw [hsee]
      have hd'b : d' ≤ 1152921504606846976 := by
        have e : d' = (seeS s.cu G).lost := by rw [hsee]
        rw [e]
        have hinv := h.inv.subs l (List.mem_of_getElem? hl) s (List.mem_of_getElem? hs)
        unfold seeS
        repeat' split
        all_goals (simp <;> omega)
      have ha'b : a' ≤ 1152921504606846976 := by
        have hinv := h.inv.subs l (List.mem_of_getElem? hl) s (List.mem_of_getElem? hs)
        have e : a' = (seeS s.cu G).next := by rw [hsee]
        rw [e]
        unfold seeS
        repeat' split
        all_goals (simp <;> omega)
      have HC := hide (fun w => count_any a' s.cu.cap s.cu.got d' G w f2 f3 ha'b hd'b (by omega))
      have HSee := hide HSee
      obtain ⟨X, hX⟩ : ∃ X, X = countS ⟨a', s.cu.cap, s.cu.got, d'⟩ G := ⟨_, rfl⟩
      rw [← hX] at HC
      rw [← hX]
      obtain ⟨t, ht⟩ : ∃ t, t = s.topic := ⟨_, rfl⟩
      obtain ⟨r, hr⟩ : ∃ t, t = s.rank := ⟨_, rfl⟩
      obtain ⟨nx, hnx⟩ : ∃ t, t = s.cu.next := ⟨_, rfl⟩
      obtain ⟨ca, hca⟩ : ∃ t, t = s.cu.cap := ⟨_, rfl⟩
      obtain ⟨go, hgo⟩ : ∃ t, t = s.cu.got := ⟨_, rfl⟩
      obtain ⟨lo, hlo⟩ : ∃ t, t = s.cu.lost := ⟨_, rfl⟩
      rw [← ht] at d0 hG hst
      rw [← hr] at d1
      rw [← hnx] at d2 HSee
      rw [← hca] at d3 HSee HC
      rw [← hgo] at d4 HSee HC
      rw [← hlo] at d5 HSee
      have hji : (j : Int) < (n : Int) := by omega
      obtain ⟨N, hN⟩ : ∃ N, N = S.gens.length := ⟨_, rfl⟩
      rw [← hN] at h5 hst
      have hgbl := block_lt_of_cell hG
      clear h hcp hB hv hl hld hn hrow hok hT hs f0 f1 f2 f3 f4 f5 f6 hgk hkk hGe hS hle ha' hcu hsee hd'b ha'b hX ht hr hnx hca hgo hlo hN hn1
      go_enter Tryz.func36, Tryz.ntmps36
      go_wp2_with fail
      obtain ⟨Z, hZ⟩ : ∃ Z, Z = (w.alloc (clO ⟨kd, tp, j, cp, rk, so, md, fl, fr, set, ws⟩ sv wv)).alloc anZ := ⟨_, rfl⟩
      have hZb : Below w.heap.size w Z := by rw [hZ]; exact below_new2 w _ _
      have hZ5 : Z.heap[w.heap.size]? = some (clO ⟨kd, tp, j, cp, rk, so, md, fl, fr, set, ws⟩ sv wv) := by rw [hZ]; exact (heap_two w _ _).1
      have hZ6 : Z.heap[w.heap.size + 1]? = some anZ := by rw [hZ]; exact (heap_two w _ _).2
      rw [← hZ]
      have HZ := hide hZ
      clear hZ
      obtain ⟨t0, t1, t2, t3, t4, t5, t6, t7, t8, t9, t10, tf, tl⟩ := row11 hZ5
      obtain ⟨a0, a1, a2, a3, a4, a5, a6, a7, a8, a9, a10, a11, af, al⟩ := row12 hZ6
      have q7 := (hZb.cell (p := ⟨m.bb, 7, none⟩) hbbl).trans h7
      have q5 := (hZb.cell (p := ⟨m.bb, 5, none⟩) hbbl).trans h5
      have qr := (hZb.cell (p := ⟨m.sb, task, none⟩) hsbl).trans hcell
      have qg := (hZb.cell (p := ⟨m.gb, t, none⟩) hgbl).trans hG
      have e0 := (hZb.cell (p := ⟨b, o + j * 6, none⟩) hbl).trans d0
      have e1 := (hZb.cell (p := ⟨b, o + j * 6 + 1, none⟩) hbl).trans d1
      have e2 := (hZb.cell (p := ⟨b, o + j * 6 + 2, none⟩) hbl).trans d2
      have e3 := (hZb.cell (p := ⟨b, o + j * 6 + 3, none⟩) hbl).trans d3
      have e4 := (hZb.cell (p := ⟨b, o + j * 6 + 4, none⟩) hbl).trans d4
      have e5 := (hZb.cell (p := ⟨b, o + j * 6 + 5, none⟩) hbl).trans d5
      have hqb : m.bb < Z.heap.size := Nat.lt_of_lt_of_le hbbl hZb.size
      have hqs : m.sb < Z.heap.size := Nat.lt_of_lt_of_le hsbl hZb.size
      have hqg : m.gb < Z.heap.size := Nat.lt_of_lt_of_le hgbl hZb.size
      have hqr : b < Z.heap.size := Nat.lt_of_lt_of_le hbl hZb.size
      clear h7 h5 hcell hG d0 d1 d2 d3 d4 d5
      go_quiet (fail)
      go_wp2_with fail
      have HK : ∀ w', Below Z.heap.size Z w' → w'.cell? ⟨m.bb, 7, none⟩ = some (.slice (some ⟨m.sb, 0, none⟩) T T) ∧ w'.cell? ⟨m.sb, task, none⟩ = some (.slice (some ⟨b, o, none⟩) n cA) ∧ w'.cell? ⟨w.heap.size, 2, none⟩ = some (.int .i64 j) ∧ w'.cell? ⟨b, o + j * 6, none⟩ = some (.int .i64 t) ∧ w'.cell? ⟨b, o + j * 6 + 1, none⟩ = some (.int .i64 r) ∧ w'.cell? ⟨b, o + j * 6 + 2, none⟩ = some (.int .u64 nx) ∧ w'.cell? ⟨b, o + j * 6 + 3, none⟩ = some (.int .i64 ca) ∧ w'.cell? ⟨b, o + j * 6 + 4, none⟩ = some (.int .u64 go) ∧ w'.cell? ⟨b, o + j * 6 + 5, none⟩ = some (.int .u64 lo) :=
        fun w' hb => ⟨(hb.cell (p := ⟨m.bb, 7, none⟩) hqb).trans q7, (hb.cell (p := ⟨m.sb, task, none⟩) hqs).trans qr, (hb.cell (p := ⟨w.heap.size, 2, none⟩) tl).trans t2, (hb.cell (p := ⟨b, o + j * 6, none⟩) hqr).trans e0, (hb.cell (p := ⟨b, o + j * 6 + 1, none⟩) hqr).trans e1, (hb.cell (p := ⟨b, o + j * 6 + 2, none⟩) hqr).trans e2, (hb.cell (p := ⟨b, o + j * 6 + 3, none⟩) hqr).trans e3, (hb.cell (p := ⟨b, o + j * 6 + 4, none⟩) hqr).trans e4, (hb.cell (p := ⟨b, o + j * 6 + 5, none⟩) hqr).trans e5⟩
      obtain ⟨V, hV⟩ : ∃ V, V = Z.drewN nq := ⟨_, rfl⟩
      have hVB : Below Z.heap.size Z V := by rw [hV]; exact below_drewN (Below.refl _ Z) nq
      rw [← hV]
      have HV := hide hV
      clear hV q7 qr t0 t1 t2 t3 t4 t5 t6 t7 t8 t9 t10 e0 e1 e2 e3 e4 e5 a0 a1 a2 a3 a4 a5 a6 a7 a8 a9 a10 a11
      go_region_held3 (fun w' => w'.cell? ⟨m.bb, 7, none⟩ = some (.slice (some ⟨m.sb, 0, none⟩) T T) ∧ w'.cell? ⟨m.sb, task, none⟩ = some (.slice (some ⟨b, o, none⟩) n cA) ∧ w'.cell? ⟨w.heap.size, 2, none⟩ = some (.int .i64 j) ∧ w'.cell? ⟨b, o + j * 6, none⟩ = some (.int .i64 t) ∧ w'.cell? ⟨b, o + j * 6 + 1, none⟩ = some (.int .i64 r) ∧ w'.cell? ⟨b, o + j * 6 + 2, none⟩ = some (.int .u64 nx) ∧ w'.cell? ⟨b, o + j * 6 + 3, none⟩ = some (.int .i64 ca) ∧ w'.cell? ⟨b, o + j * 6 + 4, none⟩ = some (.int .u64 go) ∧ w'.cell? ⟨b, o + j * 6 + 5, none⟩ = some (.int .u64 lo))
        (first | with_reducible assumption | exact HK _ hVB.drew | exact HK _ (hVB.drew.alloc hVB.size _) | exact HK _ (hVB.alloc hVB.size _) | exact HK _ (hVB.alloc hVB.size _).drew)
        (fail)
      have hY7 := heap_alloc_new V (.cells #[.int .i64 t, .int .i64 r, .int .u64 nx, .int .i64 ca, .int .u64 go, .int .u64 lo] 137)
      obtain ⟨Y, hY⟩ : ∃ Y, Y = (V.alloc (.cells #[.int .i64 t, .int .i64 r, .int .u64 nx, .int .i64 ca, .int .u64 go, .int .u64 lo] 137)).drew := ⟨_, rfl⟩
      have hYB : Below Z.heap.size Z Y := by rw [hY]; exact (hVB.alloc hVB.size _).drew
      have hY7' : Y.heap[V.heap.size]? = some (.cells #[.int .i64 t, .int .i64 r, .int .u64 nx, .int .i64 ca, .int .u64 go, .int .u64 lo] 137) := by rw [hY]; exact hY7
      rw [← hY]
      have hg7 : Z.heap.size ≤ V.heap.size := hVB.size
      generalize V.heap.size = g7 at *
      have HY := hide hY
      clear hY hY7 HK hVB
      obtain ⟨y0, y1, y2, y3, y4, y5, yf, yl⟩ := row6 hY7'
      have z5 := (hYB.cell (p := ⟨m.bb, 5, none⟩) hqb).trans q5
      have zg := (hYB.cell (p := ⟨m.gb, t, none⟩) hqg).trans qg
      have zb : m.bb < Y.heap.size := Nat.lt_of_lt_of_le hqb hYB.size
      have zgl : m.gb < Y.heap.size := Nat.lt_of_lt_of_le hqg hYB.size
      clear q5 qg
      go_wp2_with fail
      go_quiet (fail)
      clear z5 zg
      go_wp2_with fail
      refine (HSee.out _).mono ?_
      rintro e w2 ⟨rfl, hb2⟩
      have hb2' : Below w.heap.size w w2 := below2 (hZb.trans (hYB.mono hZb.size)) ⟨hb2.os, hb2.tape, hb2.output, hb2.size, hb2.block⟩
      clear y0 y1 y2 y3 y4 y5 yf
      go_wp2_with fail
      have hU9 := heap_alloc_new w2 (.cells #[.int .u64 a', .int .i64 ca, .int .u64 go, .int .u64 d'] 133)
      have hUB := below2 hb2' (below_new w2 (.cells #[.int .u64 a', .int .i64 ca, .int .u64 go, .int .u64 d'] 133))
      have hU6 : (w2.alloc (.cells #[.int .u64 a', .int .i64 ca, .int .u64 go, .int .u64 d'] 133)).heap[w.heap.size + 1]? = some anZ := alloc_was _ _ _ _ ((hb2.block _ (Nat.lt_of_lt_of_le al hYB.size)).trans ((hYB.block _ al).trans hZ6))
      generalize w2.alloc (.cells #[.int .u64 a', .int .i64 ca, .int .u64 go, .int .u64 d'] 133) = U at *
      generalize w2.heap.size = g9 at *
      obtain ⟨u0, u1, u2, u3, uf, ul⟩ := row4 hU9
      refine wp_region_ext_tail 7 (by kernel_rfl) (by kernel_rfl) (fun _ _ d _ _ h => by cases d <;> exact h) ?_
      simp only [List.take_succ_cons, List.take_zero, List.drop_succ_cons, List.drop_zero]
      repeat (first
        | go_big_quiet_skip
        | (go_big_quiet_want
           first
             | (apply quiet_val
                · intro wq hq
                  have hcq := hq.cells
                  have hzq := hq.lift
                  go_simp
                  try go_bits
                  first | done | with_reducible rfl
                (try simp only [Act.put, List.setIfInBounds_toArray, List.set_cons_zero, List.set_cons_succ])
                go_big_quiet_on)
             | (apply quiet_call
                · intro wq hq
                  have hcq := hq.cells
                  have hzq := hq.lift
                  go_simp
                  first
                    | (go_at_call 69; exact (HC.out wq).mono fun e w' hp => ⟨hp.1, hq.call hp.2⟩)
                (try simp only [Act.put, List.setIfInBounds_toArray, List.set_cons_zero, List.set_cons_succ])
                go_big_quiet_on)))
      refine wpQuiet_nil ?_
      intro w3 h3
      have hb3 := below2 hUB h3.below
      obtain ⟨b0, b1, b2, b3, b4, b5, b6, b7, b8, b9, b10, b11, bf, bl⟩ := row12 ((h3.below.block _ (block_lt hU6)).trans hU6)
      clear u0 u1 u2 u3 uf ul
      go_wp2
      have hresl : Tryz.f36.results = #[.cell 6 44] := by kernel_rfl
      refine bodyPost_ret (v := anV { refS 0 with gen := G, count := X, lost := d' } nilS nilS) ?_ rfl ?_
      · simp only [results, hresl]
        go_simp
        simp [refS, rg0]
      · exact post_plain (a := { refS 0 with gen := G, count := X, lost := d' }) H.out (set12_below hb3 (Nat.le_succ _) _ _ _ _ _ _ _ _ _ _ _ _) rfl rfl

end Go.Proofs.YtpilfhjlfbjloaaGreatDoor
