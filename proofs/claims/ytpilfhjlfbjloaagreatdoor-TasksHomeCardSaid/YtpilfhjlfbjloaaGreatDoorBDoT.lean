/-
  The walk of the blackboard's Do. Conditions: the call is no Snapshot; a blackboard in memory; the calls' fields and the ways between modes, in memory.
-/
import Derived.Test.YtpilfhjlfbjloaaGreatDoorBPoll
namespace Go.Proofs.YtpilfhjlfbjloaaGreatDoor
open Go.RowKit


abbrev doF (f : FuncId) (b : Nat) : Value := .func (.func f) #[.pointer (some ⟨b, 0, none⟩)] #[]
abbrev doesO (b : Nat) : Obj :=
  .cells #[doF 30 b, doF 31 b, doF 32 b, doF 33 b, doF 34 b, doF 35 b, doF 36 b, doF 37 b, doF 38 b, doF 39 b] 92

set_option maxRecDepth 100000 in
/-- The ten stores. -/
theorem ten_stores (w : World) (b : Nat) :
    (store ⟨w.heap.size, 0, none⟩ (doF 30 b)).run Tryz.prog (w.alloc (.cells #[.nilFunc, .nilFunc, .nilFunc, .nilFunc, .nilFunc, .nilFunc, .nilFunc, .nilFunc, .nilFunc, .nilFunc] 92)) = .ok () ((w.alloc (.cells #[.nilFunc, .nilFunc, .nilFunc, .nilFunc, .nilFunc, .nilFunc, .nilFunc, .nilFunc, .nilFunc, .nilFunc] 92)).setCell ⟨w.heap.size, 0, none⟩ (doF 30 b)) ∧
    (store ⟨w.heap.size, 1, none⟩ (doF 31 b)).run Tryz.prog (w.alloc (.cells #[(doF 30 b), .nilFunc, .nilFunc, .nilFunc, .nilFunc, .nilFunc, .nilFunc, .nilFunc, .nilFunc, .nilFunc] 92)) = .ok () ((w.alloc (.cells #[(doF 30 b), .nilFunc, .nilFunc, .nilFunc, .nilFunc, .nilFunc, .nilFunc, .nilFunc, .nilFunc, .nilFunc] 92)).setCell ⟨w.heap.size, 1, none⟩ (doF 31 b)) ∧
    (store ⟨w.heap.size, 2, none⟩ (doF 32 b)).run Tryz.prog (w.alloc (.cells #[(doF 30 b), (doF 31 b), .nilFunc, .nilFunc, .nilFunc, .nilFunc, .nilFunc, .nilFunc, .nilFunc, .nilFunc] 92)) = .ok () ((w.alloc (.cells #[(doF 30 b), (doF 31 b), .nilFunc, .nilFunc, .nilFunc, .nilFunc, .nilFunc, .nilFunc, .nilFunc, .nilFunc] 92)).setCell ⟨w.heap.size, 2, none⟩ (doF 32 b)) ∧
    (store ⟨w.heap.size, 3, none⟩ (doF 33 b)).run Tryz.prog (w.alloc (.cells #[(doF 30 b), (doF 31 b), (doF 32 b), .nilFunc, .nilFunc, .nilFunc, .nilFunc, .nilFunc, .nilFunc, .nilFunc] 92)) = .ok () ((w.alloc (.cells #[(doF 30 b), (doF 31 b), (doF 32 b), .nilFunc, .nilFunc, .nilFunc, .nilFunc, .nilFunc, .nilFunc, .nilFunc] 92)).setCell ⟨w.heap.size, 3, none⟩ (doF 33 b)) ∧
    (store ⟨w.heap.size, 4, none⟩ (doF 34 b)).run Tryz.prog (w.alloc (.cells #[(doF 30 b), (doF 31 b), (doF 32 b), (doF 33 b), .nilFunc, .nilFunc, .nilFunc, .nilFunc, .nilFunc, .nilFunc] 92)) = .ok () ((w.alloc (.cells #[(doF 30 b), (doF 31 b), (doF 32 b), (doF 33 b), .nilFunc, .nilFunc, .nilFunc, .nilFunc, .nilFunc, .nilFunc] 92)).setCell ⟨w.heap.size, 4, none⟩ (doF 34 b)) ∧
    (store ⟨w.heap.size, 5, none⟩ (doF 35 b)).run Tryz.prog (w.alloc (.cells #[(doF 30 b), (doF 31 b), (doF 32 b), (doF 33 b), (doF 34 b), .nilFunc, .nilFunc, .nilFunc, .nilFunc, .nilFunc] 92)) = .ok () ((w.alloc (.cells #[(doF 30 b), (doF 31 b), (doF 32 b), (doF 33 b), (doF 34 b), .nilFunc, .nilFunc, .nilFunc, .nilFunc, .nilFunc] 92)).setCell ⟨w.heap.size, 5, none⟩ (doF 35 b)) ∧
    (store ⟨w.heap.size, 6, none⟩ (doF 36 b)).run Tryz.prog (w.alloc (.cells #[(doF 30 b), (doF 31 b), (doF 32 b), (doF 33 b), (doF 34 b), (doF 35 b), .nilFunc, .nilFunc, .nilFunc, .nilFunc] 92)) = .ok () ((w.alloc (.cells #[(doF 30 b), (doF 31 b), (doF 32 b), (doF 33 b), (doF 34 b), (doF 35 b), .nilFunc, .nilFunc, .nilFunc, .nilFunc] 92)).setCell ⟨w.heap.size, 6, none⟩ (doF 36 b)) ∧
    (store ⟨w.heap.size, 7, none⟩ (doF 37 b)).run Tryz.prog (w.alloc (.cells #[(doF 30 b), (doF 31 b), (doF 32 b), (doF 33 b), (doF 34 b), (doF 35 b), (doF 36 b), .nilFunc, .nilFunc, .nilFunc] 92)) = .ok () ((w.alloc (.cells #[(doF 30 b), (doF 31 b), (doF 32 b), (doF 33 b), (doF 34 b), (doF 35 b), (doF 36 b), .nilFunc, .nilFunc, .nilFunc] 92)).setCell ⟨w.heap.size, 7, none⟩ (doF 37 b)) ∧
    (store ⟨w.heap.size, 8, none⟩ (doF 38 b)).run Tryz.prog (w.alloc (.cells #[(doF 30 b), (doF 31 b), (doF 32 b), (doF 33 b), (doF 34 b), (doF 35 b), (doF 36 b), (doF 37 b), .nilFunc, .nilFunc] 92)) = .ok () ((w.alloc (.cells #[(doF 30 b), (doF 31 b), (doF 32 b), (doF 33 b), (doF 34 b), (doF 35 b), (doF 36 b), (doF 37 b), .nilFunc, .nilFunc] 92)).setCell ⟨w.heap.size, 8, none⟩ (doF 38 b)) ∧
    (store ⟨w.heap.size, 9, none⟩ (doF 39 b)).run Tryz.prog (w.alloc (.cells #[(doF 30 b), (doF 31 b), (doF 32 b), (doF 33 b), (doF 34 b), (doF 35 b), (doF 36 b), (doF 37 b), (doF 38 b), .nilFunc] 92)) = .ok () ((w.alloc (.cells #[(doF 30 b), (doF 31 b), (doF 32 b), (doF 33 b), (doF 34 b), (doF 35 b), (doF 36 b), (doF 37 b), (doF 38 b), .nilFunc] 92)).setCell ⟨w.heap.size, 9, none⟩ (doF 39 b)) := by
  refine ⟨store_func _ _ _ _ _ .nilFunc (cell_of (heap_alloc_new w _) 0) (frozen_of (heap_alloc_new w _) 0), store_func _ _ _ _ _ .nilFunc (cell_of (heap_alloc_new w _) 1) (frozen_of (heap_alloc_new w _) 1), store_func _ _ _ _ _ .nilFunc (cell_of (heap_alloc_new w _) 2) (frozen_of (heap_alloc_new w _) 2), store_func _ _ _ _ _ .nilFunc (cell_of (heap_alloc_new w _) 3) (frozen_of (heap_alloc_new w _) 3), store_func _ _ _ _ _ .nilFunc (cell_of (heap_alloc_new w _) 4) (frozen_of (heap_alloc_new w _) 4), store_func _ _ _ _ _ .nilFunc (cell_of (heap_alloc_new w _) 5) (frozen_of (heap_alloc_new w _) 5), store_func _ _ _ _ _ .nilFunc (cell_of (heap_alloc_new w _) 6) (frozen_of (heap_alloc_new w _) 6), store_func _ _ _ _ _ .nilFunc (cell_of (heap_alloc_new w _) 7) (frozen_of (heap_alloc_new w _) 7), store_func _ _ _ _ _ .nilFunc (cell_of (heap_alloc_new w _) 8) (frozen_of (heap_alloc_new w _) 8), store_func _ _ _ _ _ .nilFunc (cell_of (heap_alloc_new w _) 9) (frozen_of (heap_alloc_new w _) 9)⟩

theorem call_kind {c : Cl} (h : callS c = 0) : 0 ≤ c.kind ∧ c.kind ≤ 9 := by
  unfold callS at h
  split at h
  · cases h
  · rename_i hn
    simp [betweenB] at hn
    omega

theorem call_pub {c : Cl} (h : callS c = 0) (hk : c.kind = 1) : 0 < c.words.length := by
  unfold callS at h
  split at h
  · cases h
  · split at h
    · rename_i hn; exact absurd h hn
    · rename_i hn
      unfold ownS at hn
      simp [hk, betweenB] at hn
      omega

theorem call_sub {c : Cl} (h : callS c = 0) (hk : c.kind = 4) : (1 ≤ c.cap ∧ c.cap ≤ 15) ∧ 0 ≤ c.rank ∧ c.rank ≤ 255 := by
  unfold callS at h
  split at h
  · cases h
  · split at h
    · rename_i hn; exact absurd h hn
    · rename_i hn
      unfold ownS at hn
      simp [hk, betweenB] at hn
      omega

set_option maxRecDepth 100000 in
set_option maxHeartbeats 3200000 in
theorem do_any {k : Nat} {m : Mem} {S : Bd} (task : Int) (c : Cl) (sv wv : Value) (w : World) (h : IsBd k w m S) (hk : k + 1 ≤ 1000000) (hF : FieldsAt w) (hW : WaysAt w)
    (hs : Rd w sv 1 c.set.length (c.set.map (Value.int .i64))) (hw : Rd w wv 1 c.words.length (u64V c.words)) (hs1 : c.set.length ≤ 100) (hw1 : c.words.length ≤ 100) (hwo : 0 < c.words.length → ∀ q, wv.ownBlock = some q → ¬ m.own q) (h3 : c.kind ≠ 3) :
    Calls Tryz.prog 9 #[.pointer (some ⟨m.bb, 0, none⟩), .int .i64 task, clV c sv wv] w fun e w' => DoPost (k + 1) w m (doS S task c) e w' := by
  have hB := h.blk
  have H := hide (h.mono (Nat.le_succ k) hk)
  have HI := hide h
  have HM := hide h.lt
  have h0 : w.cell? ⟨m.bb, 0, none⟩ = some (.int .i64 S.tasks) := (row13 hB).1
  have hbbl := block_lt hB
  obtain ⟨A', cA', rfl, -⟩ := hw.shape
  obtain ⟨T, hT⟩ : ∃ T, T = S.tasks := ⟨_, rfl⟩
  rw [← hT] at h0
  have HT := hide hT
  have HK3 := hide h3
  clear h3
  have HC := hide (fun (w' : World) (hb : Below w.heap.size w w') => call_any c sv A' c.set.length c.words.length cA' w' rfl hs1 rfl (hs.below hb) (hF.below hb))
  have HF := hide hF
  have HW := hide hW
  have Hs := hide hs
  have Hw := hide hw
  by_cases hlow : task < 0
  · have hcp : doS S task c = (S, refS 14) := by rw [doS, if_pos (.inl hlow)]
    rw [hcp]
    clear h hB hT hcp hF hW hs hw
    go_enter Tryz.func9, Tryz.ntmps9
    go_wp2_with fail
    refine (refused_any 14 _).mono ?_
    rintro e w2 ⟨rfl, hb2⟩
    obtain ⟨hc2, hf2, hz2⟩ := bcell hb2
    go_wp2
    have hresl : Tryz.f9.results = #[.cell 6 44] := by kernel_rfl
    refine bodyPost_ret (v := anR 14) ?_ rfl ?_
    · simp only [results, hresl]
      go_simp
    · exact post_plain H.out (set12_below ((below_new2 w _ _).trans (hb2.mono (by simp; omega))) (Nat.le_succ _) _ _ _ _ _ _ _ _ _ _ _ _) rfl rfl
  · by_cases hhigh : (T : Int) ≤ task
    · have hcp : doS S task c = (S, refS 14) := by rw [doS, if_pos (.inr (by rw [← hT]; exact hhigh))]
      rw [hcp]
      clear h hB hT hcp hF hW hs hw
      go_enter Tryz.func9, Tryz.ntmps9
      go_wp2_with fail
      refine (refused_any 14 _).mono ?_
      rintro e w2 ⟨rfl, hb2⟩
      obtain ⟨hc2, hf2, hz2⟩ := bcell hb2
      go_wp2
      have hresl : Tryz.f9.results = #[.cell 6 44] := by kernel_rfl
      refine bodyPost_ret (v := anR 14) ?_ rfl ?_
      · simp only [results, hresl]
        go_simp
      · exact post_plain H.out (set12_below ((below_new2 w _ _).trans (hb2.mono (by simp; omega))) (Nat.le_succ _) _ _ _ _ _ _ _ _ _ _ _ _) rfl rfl
    · obtain ⟨tn, rfl⟩ : ∃ tn : Nat, task = tn := ⟨task.toNat, by omega⟩
      have htn : tn < T := by omega
      have hd : doS S (tn : Int) c = if callS c ≠ 0 then (S, refS (callS c)) else kindS S tn c := by rw [doS, if_neg (by rw [← hT]; omega)]; rfl
      rw [hd]
      obtain ⟨E, hE⟩ : ∃ E, E = callS c := ⟨_, rfl⟩
      rw [← hE] at HC
      rw [← hE]
      by_cases hE0 : E = 0
      · subst hE0
        rw [if_neg (by simp)]
        obtain ⟨X, hX⟩ : ∃ X, X = kindS S tn c := ⟨_, rfl⟩
        rw [← hX]
        have HX := hide hX
        obtain ⟨k1, k2⟩ := call_kind hE.symm
        have hsub := hide (fun hk => call_sub hE.symm hk)
        have hpub := hide (fun hk => hwo (call_pub hE.symm hk))
        clear h hB hT hd hF hW hs hw hE hX
        obtain ⟨kd, tp, sb, cp, rk, so, md, fl, fr, set, ws⟩ := c
        simp only at k1 k2
        go_enter Tryz.func9, Tryz.ntmps9
        go_wp2_with fail
        refine (HC.out _ (below_new2 w _ _)).mono ?_
        rintro e w2 ⟨rfl, hb2⟩
        obtain ⟨s0, s1, s2, s3, s4, s5, s6, s7, s8, s9⟩ := ten_stores w2 m.bb
        go_wp2_with fail
        have hb02 : Below w.heap.size w w2 := (below_new2 w (clO ⟨kd, tp, sb, cp, rk, so, md, fl, fr, set, ws⟩ sv (.slice A' ws.length cA')) anZ).trans (hb2.mono (by simp; omega))
        have hbZ : Below w.heap.size w (w2.alloc (doesO m.bb)) := below2 hb02 (below_new w2 _)
        have hZ5 : (w2.alloc (doesO m.bb)).heap[w.heap.size]? = some (clO ⟨kd, tp, sb, cp, rk, so, md, fl, fr, set, ws⟩ sv (.slice A' ws.length cA')) := alloc_was _ _ _ _ ((hb2.block _ (by simp; omega)).trans (heap_two w _ _).1)
        have hZ6 : (w2.alloc (doesO m.bb)).heap[w.heap.size + 1]? = some anZ := alloc_was _ _ _ _ ((hb2.block _ (by simp)).trans (heap_two w _ _).2)
        have hZ8 : (w2.alloc (doesO m.bb)).heap[w2.heap.size]? = some (doesO m.bb) := heap_alloc_new w2 (doesO m.bb)
        clear s0 s1 s2 s3 s4 s5 s6 s7 s8 s9 hb2 hb02
        generalize w2.alloc (doesO m.bb) = Z at *
        generalize w2.heap.size = g8 at *
        obtain ⟨t0, t1, t2, t3, t4, t5, t6, t7, t8, t9, t10, tf, tl⟩ := row11 hZ5
        obtain ⟨a0, a1, a2, a3, a4, a5, a6, a7, a8, a9, a10, a11, af, al⟩ := row12 hZ6
        obtain ⟨p0, p1, p2, p3, p4, p5, p6, p7, p8, p9, pf, pl⟩ := row10 hZ8
        clear a0 a1 a2 a3 a4 a5 a6 a7 a8 a9 a10 a11
        have HhbZ := hide hbZ
        have hcases : kd = 0 ∨ kd = 1 ∨ kd = 2 ∨ kd = 4 ∨ kd = 5 ∨ kd = 6 ∨ kd = 7 ∨ kd = 8 ∨ kd = 9 := by have h : kd ≠ 3 := HK3.out; omega
        rcases hcases with rfl | rfl | rfl | rfl | rfl | rfl | rfl | rfl | rfl
        all_goals clear k1 k2 HK3
        · refine wp_region_ext_tail 6 (by kernel_rfl) (by kernel_rfl) (fun _ _ d _ _ h => by cases d <;> exact h) ?_
          simp only [List.take_succ_cons, List.take_zero, List.drop_succ_cons, List.drop_zero]
          repeat (first
            | go_big_quiet_skip
            | (go_big_quiet_want
               first
                 | (apply quiet_val
                    · intro wq hq
                      have hcq := hq.cells
                      have hzq := hq.lift
                      go_simp
                      try go_bits
                      first | done | with_reducible rfl
                    (try simp only [Act.put, List.setIfInBounds_toArray, List.set_cons_zero, List.set_cons_succ])
                    go_big_quiet_on)))
          refine wpQuiet_nil ?_
          intro w3 h3
          have hb3 : Below w.heap.size w w3 := HhbZ.out.trans (h3.below.mono HhbZ.out.size)
          have H3 := HI.out.below hb3
          have HP := (adv_do tn ⟨0, tp, sb, cp, rk, so, md, fl, fr, set, ws⟩ sv (.slice A' ws.length cA') w3 H3 hk (by have := HT.out; omega))
          rw [show (advS S tn ⟨0, tp, sb, cp, rk, so, md, fl, fr, set, ws⟩) = X by rw [HX.out]; rfl] at HP
          have HHP := hide HP
          clear HP
          go_wp2_with fail
          refine HHP.out.mono ?_
          rintro e w4 ⟨m', gv, wv', rfl, hIs, hTu, hgv, hwv, hf⟩
          obtain ⟨A1, k1, rfl, -⟩ := (Rd.of_own hgv).shape
          obtain ⟨A2, k2, rfl, -⟩ := (Rd.of_own hwv).shape
          have hT6 : w4.heap[w.heap.size + 1]? = some anZ := (hTu.block _ (Nat.lt_of_lt_of_le al h3.below.size) (fun ho => by have := HM.out _ (.inl ho); omega)).trans ((h3.below.block _ al).trans hZ6)
          have hg3 : w.heap.size + 1 < w3.heap.size := Nat.lt_of_lt_of_le al h3.below.size
          obtain ⟨e0, e1, e2, e3, e4, e5, e6, e7, e8, e9, e10, e11, ef, el⟩ := row12 hT6
          go_wp2
          have hresl : Tryz.f9.results = #[.cell 6 44] := by kernel_rfl
          refine bodyPost_ret (v := anV X.2 (.slice A1 X.2.gens.length k1) (.slice A2 X.2.words.length k2)) ?_ rfl ?_
          · simp only [results, hresl]
            go_simp
          · obtain ⟨s1, s2, s3, s4⟩ := set12_same w4 (w.heap.size + 1) (.int .i64 X.2.code) (.int .i64 X.2.sub) (.int .u64 X.2.gen) (.int .i64 X.2.count) (.int .u64 X.2.lost) (.int .i64 X.2.st.mode) (.int .i64 X.2.st.source) (.bool X.2.st.hold) (.int .i64 X.2.st.flags) (.int .u64 X.2.st.epoch) (.slice A1 X.2.gens.length k1) (.slice A2 X.2.words.length k2)
            exact post_up HM.out hb3 (Nat.le_succ _) hg3 hIs hTu hgv hwv hf s1 s2 s3 s4 (fun i hi => set12_other hi _ _ _ _ _ _ _ _ _ _ _ _)
        · refine wp_region_ext_tail 6 (by kernel_rfl) (by kernel_rfl) (fun _ _ d _ _ h => by cases d <;> exact h) ?_
          simp only [List.take_succ_cons, List.take_zero, List.drop_succ_cons, List.drop_zero]
          repeat (first
            | go_big_quiet_skip
            | (go_big_quiet_want
               first
                 | (apply quiet_val
                    · intro wq hq
                      have hcq := hq.cells
                      have hzq := hq.lift
                      go_simp
                      try go_bits
                      first | done | with_reducible rfl
                    (try simp only [Act.put, List.setIfInBounds_toArray, List.set_cons_zero, List.set_cons_succ])
                    go_big_quiet_on)))
          refine wpQuiet_nil ?_
          intro w3 h3
          have hb3 : Below w.heap.size w w3 := HhbZ.out.trans (h3.below.mono HhbZ.out.size)
          have H3 := HI.out.below hb3
          have HP := (pub_do tn ⟨1, tp, sb, cp, rk, so, md, fl, fr, set, ws⟩ sv A' ws.length cA' w3 H3 hk (by have := HT.out; omega) rfl hw1 (Hw.out.below hb3) (hpub.out rfl))
          rw [show (pubS S tn ⟨1, tp, sb, cp, rk, so, md, fl, fr, set, ws⟩) = X by rw [HX.out]; rfl] at HP
          have HHP := hide HP
          clear HP
          go_wp2_with fail
          refine HHP.out.mono ?_
          rintro e w4 ⟨m', gv, wv', rfl, hIs, hTu, hgv, hwv, hf⟩
          obtain ⟨A1, k1, rfl, -⟩ := (Rd.of_own hgv).shape
          obtain ⟨A2, k2, rfl, -⟩ := (Rd.of_own hwv).shape
          have hT6 : w4.heap[w.heap.size + 1]? = some anZ := (hTu.block _ (Nat.lt_of_lt_of_le al h3.below.size) (fun ho => by have := HM.out _ (.inl ho); omega)).trans ((h3.below.block _ al).trans hZ6)
          have hg3 : w.heap.size + 1 < w3.heap.size := Nat.lt_of_lt_of_le al h3.below.size
          obtain ⟨e0, e1, e2, e3, e4, e5, e6, e7, e8, e9, e10, e11, ef, el⟩ := row12 hT6
          go_wp2
          have hresl : Tryz.f9.results = #[.cell 6 44] := by kernel_rfl
          refine bodyPost_ret (v := anV X.2 (.slice A1 X.2.gens.length k1) (.slice A2 X.2.words.length k2)) ?_ rfl ?_
          · simp only [results, hresl]
            go_simp
          · obtain ⟨s1, s2, s3, s4⟩ := set12_same w4 (w.heap.size + 1) (.int .i64 X.2.code) (.int .i64 X.2.sub) (.int .u64 X.2.gen) (.int .i64 X.2.count) (.int .u64 X.2.lost) (.int .i64 X.2.st.mode) (.int .i64 X.2.st.source) (.bool X.2.st.hold) (.int .i64 X.2.st.flags) (.int .u64 X.2.st.epoch) (.slice A1 X.2.gens.length k1) (.slice A2 X.2.words.length k2)
            exact post_up HM.out hb3 (Nat.le_succ _) hg3 hIs hTu hgv hwv hf s1 s2 s3 s4 (fun i hi => set12_other hi _ _ _ _ _ _ _ _ _ _ _ _)
        · refine wp_region_ext_tail 6 (by kernel_rfl) (by kernel_rfl) (fun _ _ d _ _ h => by cases d <;> exact h) ?_
          simp only [List.take_succ_cons, List.take_zero, List.drop_succ_cons, List.drop_zero]
          repeat (first
            | go_big_quiet_skip
            | (go_big_quiet_want
               first
                 | (apply quiet_val
                    · intro wq hq
                      have hcq := hq.cells
                      have hzq := hq.lift
                      go_simp
                      try go_bits
                      first | done | with_reducible rfl
                    (try simp only [Act.put, List.setIfInBounds_toArray, List.set_cons_zero, List.set_cons_succ])
                    go_big_quiet_on)))
          refine wpQuiet_nil ?_
          intro w3 h3
          have hb3 : Below w.heap.size w w3 := HhbZ.out.trans (h3.below.mono HhbZ.out.size)
          have H3 := HI.out.below hb3
          have HP := (copies_do tn ⟨2, tp, sb, cp, rk, so, md, fl, fr, set, ws⟩ sv (.slice A' ws.length cA') w3 H3 hk)
          rw [show (((S, copyS S ⟨2, tp, sb, cp, rk, so, md, fl, fr, set, ws⟩) : Bd × An)) = X by rw [HX.out]; rfl] at HP
          have HHP := hide HP
          clear HP
          go_wp2_with fail
          refine HHP.out.mono ?_
          rintro e w4 ⟨m', gv, wv', rfl, hIs, hTu, hgv, hwv, hf⟩
          obtain ⟨A1, k1, rfl, -⟩ := (Rd.of_own hgv).shape
          obtain ⟨A2, k2, rfl, -⟩ := (Rd.of_own hwv).shape
          have hT6 : w4.heap[w.heap.size + 1]? = some anZ := (hTu.block _ (Nat.lt_of_lt_of_le al h3.below.size) (fun ho => by have := HM.out _ (.inl ho); omega)).trans ((h3.below.block _ al).trans hZ6)
          have hg3 : w.heap.size + 1 < w3.heap.size := Nat.lt_of_lt_of_le al h3.below.size
          obtain ⟨e0, e1, e2, e3, e4, e5, e6, e7, e8, e9, e10, e11, ef, el⟩ := row12 hT6
          go_wp2
          have hresl : Tryz.f9.results = #[.cell 6 44] := by kernel_rfl
          refine bodyPost_ret (v := anV X.2 (.slice A1 X.2.gens.length k1) (.slice A2 X.2.words.length k2)) ?_ rfl ?_
          · simp only [results, hresl]
            go_simp
          · obtain ⟨s1, s2, s3, s4⟩ := set12_same w4 (w.heap.size + 1) (.int .i64 X.2.code) (.int .i64 X.2.sub) (.int .u64 X.2.gen) (.int .i64 X.2.count) (.int .u64 X.2.lost) (.int .i64 X.2.st.mode) (.int .i64 X.2.st.source) (.bool X.2.st.hold) (.int .i64 X.2.st.flags) (.int .u64 X.2.st.epoch) (.slice A1 X.2.gens.length k1) (.slice A2 X.2.words.length k2)
            exact post_up HM.out hb3 (Nat.le_succ _) hg3 hIs hTu hgv hwv hf s1 s2 s3 s4 (fun i hi => set12_other hi _ _ _ _ _ _ _ _ _ _ _ _)
        · refine wp_region_ext_tail 6 (by kernel_rfl) (by kernel_rfl) (fun _ _ d _ _ h => by cases d <;> exact h) ?_
          simp only [List.take_succ_cons, List.take_zero, List.drop_succ_cons, List.drop_zero]
          repeat (first
            | go_big_quiet_skip
            | (go_big_quiet_want
               first
                 | (apply quiet_val
                    · intro wq hq
                      have hcq := hq.cells
                      have hzq := hq.lift
                      go_simp
                      try go_bits
                      first | done | with_reducible rfl
                    (try simp only [Act.put, List.setIfInBounds_toArray, List.set_cons_zero, List.set_cons_succ])
                    go_big_quiet_on)))
          refine wpQuiet_nil ?_
          intro w3 h3
          have hb3 : Below w.heap.size w w3 := HhbZ.out.trans (h3.below.mono HhbZ.out.size)
          have H3 := HI.out.below hb3
          have HP := (sub_do tn ⟨4, tp, sb, cp, rk, so, md, fl, fr, set, ws⟩ sv (.slice A' ws.length cA') w3 H3 hk (by have := HT.out; omega) (hsub.out rfl).1 (hsub.out rfl).2)
          rw [show (subS S tn ⟨4, tp, sb, cp, rk, so, md, fl, fr, set, ws⟩) = X by rw [HX.out]; rfl] at HP
          have HHP := hide HP
          clear HP
          go_wp2_with fail
          refine HHP.out.mono ?_
          rintro e w4 ⟨m', gv, wv', rfl, hIs, hTu, hgv, hwv, hf⟩
          obtain ⟨A1, k1, rfl, -⟩ := (Rd.of_own hgv).shape
          obtain ⟨A2, k2, rfl, -⟩ := (Rd.of_own hwv).shape
          have hT6 : w4.heap[w.heap.size + 1]? = some anZ := (hTu.block _ (Nat.lt_of_lt_of_le al h3.below.size) (fun ho => by have := HM.out _ (.inl ho); omega)).trans ((h3.below.block _ al).trans hZ6)
          have hg3 : w.heap.size + 1 < w3.heap.size := Nat.lt_of_lt_of_le al h3.below.size
          obtain ⟨e0, e1, e2, e3, e4, e5, e6, e7, e8, e9, e10, e11, ef, el⟩ := row12 hT6
          go_wp2
          have hresl : Tryz.f9.results = #[.cell 6 44] := by kernel_rfl
          refine bodyPost_ret (v := anV X.2 (.slice A1 X.2.gens.length k1) (.slice A2 X.2.words.length k2)) ?_ rfl ?_
          · simp only [results, hresl]
            go_simp
          · obtain ⟨s1, s2, s3, s4⟩ := set12_same w4 (w.heap.size + 1) (.int .i64 X.2.code) (.int .i64 X.2.sub) (.int .u64 X.2.gen) (.int .i64 X.2.count) (.int .u64 X.2.lost) (.int .i64 X.2.st.mode) (.int .i64 X.2.st.source) (.bool X.2.st.hold) (.int .i64 X.2.st.flags) (.int .u64 X.2.st.epoch) (.slice A1 X.2.gens.length k1) (.slice A2 X.2.words.length k2)
            exact post_up HM.out hb3 (Nat.le_succ _) hg3 hIs hTu hgv hwv hf s1 s2 s3 s4 (fun i hi => set12_other hi _ _ _ _ _ _ _ _ _ _ _ _)
        · refine wp_region_ext_tail 6 (by kernel_rfl) (by kernel_rfl) (fun _ _ d _ _ h => by cases d <;> exact h) ?_
          simp only [List.take_succ_cons, List.take_zero, List.drop_succ_cons, List.drop_zero]
          repeat (first
            | go_big_quiet_skip
            | (go_big_quiet_want
               first
                 | (apply quiet_val
                    · intro wq hq
                      have hcq := hq.cells
                      have hzq := hq.lift
                      go_simp
                      try go_bits
                      first | done | with_reducible rfl
                    (try simp only [Act.put, List.setIfInBounds_toArray, List.set_cons_zero, List.set_cons_succ])
                    go_big_quiet_on)))
          refine wpQuiet_nil ?_
          intro w3 h3
          have hb3 : Below w.heap.size w w3 := HhbZ.out.trans (h3.below.mono HhbZ.out.size)
          have H3 := HI.out.below hb3
          have HP := (poll_do tn ⟨5, tp, sb, cp, rk, so, md, fl, fr, set, ws⟩ sv (.slice A' ws.length cA') w3 H3 hk (by have := HT.out; omega))
          rw [show (pollS S tn) = X by rw [HX.out]; rfl] at HP
          have HHP := hide HP
          clear HP
          go_wp2_with fail
          refine HHP.out.mono ?_
          rintro e w4 ⟨m', gv, wv', rfl, hIs, hTu, hgv, hwv, hf⟩
          obtain ⟨A1, k1, rfl, -⟩ := (Rd.of_own hgv).shape
          obtain ⟨A2, k2, rfl, -⟩ := (Rd.of_own hwv).shape
          have hT6 : w4.heap[w.heap.size + 1]? = some anZ := (hTu.block _ (Nat.lt_of_lt_of_le al h3.below.size) (fun ho => by have := HM.out _ (.inl ho); omega)).trans ((h3.below.block _ al).trans hZ6)
          have hg3 : w.heap.size + 1 < w3.heap.size := Nat.lt_of_lt_of_le al h3.below.size
          obtain ⟨e0, e1, e2, e3, e4, e5, e6, e7, e8, e9, e10, e11, ef, el⟩ := row12 hT6
          go_wp2
          have hresl : Tryz.f9.results = #[.cell 6 44] := by kernel_rfl
          refine bodyPost_ret (v := anV X.2 (.slice A1 X.2.gens.length k1) (.slice A2 X.2.words.length k2)) ?_ rfl ?_
          · simp only [results, hresl]
            go_simp
          · obtain ⟨s1, s2, s3, s4⟩ := set12_same w4 (w.heap.size + 1) (.int .i64 X.2.code) (.int .i64 X.2.sub) (.int .u64 X.2.gen) (.int .i64 X.2.count) (.int .u64 X.2.lost) (.int .i64 X.2.st.mode) (.int .i64 X.2.st.source) (.bool X.2.st.hold) (.int .i64 X.2.st.flags) (.int .u64 X.2.st.epoch) (.slice A1 X.2.gens.length k1) (.slice A2 X.2.words.length k2)
            exact post_up HM.out hb3 (Nat.le_succ _) hg3 hIs hTu hgv hwv hf s1 s2 s3 s4 (fun i hi => set12_other hi _ _ _ _ _ _ _ _ _ _ _ _)
        · refine wp_region_ext_tail 6 (by kernel_rfl) (by kernel_rfl) (fun _ _ d _ _ h => by cases d <;> exact h) ?_
          simp only [List.take_succ_cons, List.take_zero, List.drop_succ_cons, List.drop_zero]
          repeat (first
            | go_big_quiet_skip
            | (go_big_quiet_want
               first
                 | (apply quiet_val
                    · intro wq hq
                      have hcq := hq.cells
                      have hzq := hq.lift
                      go_simp
                      try go_bits
                      first | done | with_reducible rfl
                    (try simp only [Act.put, List.setIfInBounds_toArray, List.set_cons_zero, List.set_cons_succ])
                    go_big_quiet_on)))
          refine wpQuiet_nil ?_
          intro w3 h3
          have hb3 : Below w.heap.size w w3 := HhbZ.out.trans (h3.below.mono HhbZ.out.size)
          have H3 := HI.out.below hb3
          have HP := (upd_do tn ⟨6, tp, sb, cp, rk, so, md, fl, fr, set, ws⟩ sv (.slice A' ws.length cA') w3 H3 hk (by have := HT.out; omega))
          rw [show (((S, updS S tn ⟨6, tp, sb, cp, rk, so, md, fl, fr, set, ws⟩) : Bd × An)) = X by rw [HX.out]; rfl] at HP
          have HHP := hide HP
          clear HP
          go_wp2_with fail
          refine HHP.out.mono ?_
          rintro e w4 ⟨m', gv, wv', rfl, hIs, hTu, hgv, hwv, hf⟩
          obtain ⟨A1, k1, rfl, -⟩ := (Rd.of_own hgv).shape
          obtain ⟨A2, k2, rfl, -⟩ := (Rd.of_own hwv).shape
          have hT6 : w4.heap[w.heap.size + 1]? = some anZ := (hTu.block _ (Nat.lt_of_lt_of_le al h3.below.size) (fun ho => by have := HM.out _ (.inl ho); omega)).trans ((h3.below.block _ al).trans hZ6)
          have hg3 : w.heap.size + 1 < w3.heap.size := Nat.lt_of_lt_of_le al h3.below.size
          obtain ⟨e0, e1, e2, e3, e4, e5, e6, e7, e8, e9, e10, e11, ef, el⟩ := row12 hT6
          go_wp2
          have hresl : Tryz.f9.results = #[.cell 6 44] := by kernel_rfl
          refine bodyPost_ret (v := anV X.2 (.slice A1 X.2.gens.length k1) (.slice A2 X.2.words.length k2)) ?_ rfl ?_
          · simp only [results, hresl]
            go_simp
          · obtain ⟨s1, s2, s3, s4⟩ := set12_same w4 (w.heap.size + 1) (.int .i64 X.2.code) (.int .i64 X.2.sub) (.int .u64 X.2.gen) (.int .i64 X.2.count) (.int .u64 X.2.lost) (.int .i64 X.2.st.mode) (.int .i64 X.2.st.source) (.bool X.2.st.hold) (.int .i64 X.2.st.flags) (.int .u64 X.2.st.epoch) (.slice A1 X.2.gens.length k1) (.slice A2 X.2.words.length k2)
            exact post_up HM.out hb3 (Nat.le_succ _) hg3 hIs hTu hgv hwv hf s1 s2 s3 s4 (fun i hi => set12_other hi _ _ _ _ _ _ _ _ _ _ _ _)
        · refine wp_region_ext_tail 6 (by kernel_rfl) (by kernel_rfl) (fun _ _ d _ _ h => by cases d <;> exact h) ?_
          simp only [List.take_succ_cons, List.take_zero, List.drop_succ_cons, List.drop_zero]
          repeat (first
            | go_big_quiet_skip
            | (go_big_quiet_want
               first
                 | (apply quiet_val
                    · intro wq hq
                      have hcq := hq.cells
                      have hzq := hq.lift
                      go_simp
                      try go_bits
                      first | done | with_reducible rfl
                    (try simp only [Act.put, List.setIfInBounds_toArray, List.set_cons_zero, List.set_cons_succ])
                    go_big_quiet_on)))
          refine wpQuiet_nil ?_
          intro w3 h3
          have hb3 : Below w.heap.size w w3 := HhbZ.out.trans (h3.below.mono HhbZ.out.size)
          have H3 := HI.out.below hb3
          have HP := (request_do tn ⟨7, tp, sb, cp, rk, so, md, fl, fr, set, ws⟩ sv (.slice A' ws.length cA') w3 H3 hk (HW.out.below hb3))
          rw [show (turnS S (decideS S.st so md fr)) = X by rw [HX.out]; rfl] at HP
          have HHP := hide HP
          clear HP
          go_wp2_with fail
          refine HHP.out.mono ?_
          rintro e w4 ⟨m', gv, wv', rfl, hIs, hTu, hgv, hwv, hf⟩
          obtain ⟨A1, k1, rfl, -⟩ := (Rd.of_own hgv).shape
          obtain ⟨A2, k2, rfl, -⟩ := (Rd.of_own hwv).shape
          have hT6 : w4.heap[w.heap.size + 1]? = some anZ := (hTu.block _ (Nat.lt_of_lt_of_le al h3.below.size) (fun ho => by have := HM.out _ (.inl ho); omega)).trans ((h3.below.block _ al).trans hZ6)
          have hg3 : w.heap.size + 1 < w3.heap.size := Nat.lt_of_lt_of_le al h3.below.size
          obtain ⟨e0, e1, e2, e3, e4, e5, e6, e7, e8, e9, e10, e11, ef, el⟩ := row12 hT6
          go_wp2
          have hresl : Tryz.f9.results = #[.cell 6 44] := by kernel_rfl
          refine bodyPost_ret (v := anV X.2 (.slice A1 X.2.gens.length k1) (.slice A2 X.2.words.length k2)) ?_ rfl ?_
          · simp only [results, hresl]
            go_simp
          · obtain ⟨s1, s2, s3, s4⟩ := set12_same w4 (w.heap.size + 1) (.int .i64 X.2.code) (.int .i64 X.2.sub) (.int .u64 X.2.gen) (.int .i64 X.2.count) (.int .u64 X.2.lost) (.int .i64 X.2.st.mode) (.int .i64 X.2.st.source) (.bool X.2.st.hold) (.int .i64 X.2.st.flags) (.int .u64 X.2.st.epoch) (.slice A1 X.2.gens.length k1) (.slice A2 X.2.words.length k2)
            exact post_up HM.out hb3 (Nat.le_succ _) hg3 hIs hTu hgv hwv hf s1 s2 s3 s4 (fun i hi => set12_other hi _ _ _ _ _ _ _ _ _ _ _ _)
        · refine wp_region_ext_tail 6 (by kernel_rfl) (by kernel_rfl) (fun _ _ d _ _ h => by cases d <;> exact h) ?_
          simp only [List.take_succ_cons, List.take_zero, List.drop_succ_cons, List.drop_zero]
          repeat (first
            | go_big_quiet_skip
            | (go_big_quiet_want
               first
                 | (apply quiet_val
                    · intro wq hq
                      have hcq := hq.cells
                      have hzq := hq.lift
                      go_simp
                      try go_bits
                      first | done | with_reducible rfl
                    (try simp only [Act.put, List.setIfInBounds_toArray, List.set_cons_zero, List.set_cons_succ])
                    go_big_quiet_on)))
          refine wpQuiet_nil ?_
          intro w3 h3
          have hb3 : Below w.heap.size w w3 := HhbZ.out.trans (h3.below.mono HhbZ.out.size)
          have H3 := HI.out.below hb3
          have HP := (health_do tn ⟨8, tp, sb, cp, rk, so, md, fl, fr, set, ws⟩ sv (.slice A' ws.length cA') w3 H3 hk)
          rw [show (turnS S (healthS S.st fl)) = X by rw [HX.out]; rfl] at HP
          have HHP := hide HP
          clear HP
          go_wp2_with fail
          refine HHP.out.mono ?_
          rintro e w4 ⟨m', gv, wv', rfl, hIs, hTu, hgv, hwv, hf⟩
          obtain ⟨A1, k1, rfl, -⟩ := (Rd.of_own hgv).shape
          obtain ⟨A2, k2, rfl, -⟩ := (Rd.of_own hwv).shape
          have hT6 : w4.heap[w.heap.size + 1]? = some anZ := (hTu.block _ (Nat.lt_of_lt_of_le al h3.below.size) (fun ho => by have := HM.out _ (.inl ho); omega)).trans ((h3.below.block _ al).trans hZ6)
          have hg3 : w.heap.size + 1 < w3.heap.size := Nat.lt_of_lt_of_le al h3.below.size
          obtain ⟨e0, e1, e2, e3, e4, e5, e6, e7, e8, e9, e10, e11, ef, el⟩ := row12 hT6
          go_wp2
          have hresl : Tryz.f9.results = #[.cell 6 44] := by kernel_rfl
          refine bodyPost_ret (v := anV X.2 (.slice A1 X.2.gens.length k1) (.slice A2 X.2.words.length k2)) ?_ rfl ?_
          · simp only [results, hresl]
            go_simp
          · obtain ⟨s1, s2, s3, s4⟩ := set12_same w4 (w.heap.size + 1) (.int .i64 X.2.code) (.int .i64 X.2.sub) (.int .u64 X.2.gen) (.int .i64 X.2.count) (.int .u64 X.2.lost) (.int .i64 X.2.st.mode) (.int .i64 X.2.st.source) (.bool X.2.st.hold) (.int .i64 X.2.st.flags) (.int .u64 X.2.st.epoch) (.slice A1 X.2.gens.length k1) (.slice A2 X.2.words.length k2)
            exact post_up HM.out hb3 (Nat.le_succ _) hg3 hIs hTu hgv hwv hf s1 s2 s3 s4 (fun i hi => set12_other hi _ _ _ _ _ _ _ _ _ _ _ _)
        · refine wp_region_ext_tail 6 (by kernel_rfl) (by kernel_rfl) (fun _ _ d _ _ h => by cases d <;> exact h) ?_
          simp only [List.take_succ_cons, List.take_zero, List.drop_succ_cons, List.drop_zero]
          repeat (first
            | go_big_quiet_skip
            | (go_big_quiet_want
               first
                 | (apply quiet_val
                    · intro wq hq
                      have hcq := hq.cells
                      have hzq := hq.lift
                      go_simp
                      try go_bits
                      first | done | with_reducible rfl
                    (try simp only [Act.put, List.setIfInBounds_toArray, List.set_cons_zero, List.set_cons_succ])
                    go_big_quiet_on)))
          refine wpQuiet_nil ?_
          intro w3 h3
          have hb3 : Below w.heap.size w w3 := HhbZ.out.trans (h3.below.mono HhbZ.out.size)
          have H3 := HI.out.below hb3
          have HP := (mode_do tn ⟨9, tp, sb, cp, rk, so, md, fl, fr, set, ws⟩ sv (.slice A' ws.length cA') w3 H3 hk)
          rw [show (((S, { refS 0 with st := S.st }) : Bd × An)) = X by rw [HX.out]; rfl] at HP
          have HHP := hide HP
          clear HP
          go_wp2_with fail
          refine HHP.out.mono ?_
          rintro e w4 ⟨m', gv, wv', rfl, hIs, hTu, hgv, hwv, hf⟩
          obtain ⟨A1, k1, rfl, -⟩ := (Rd.of_own hgv).shape
          obtain ⟨A2, k2, rfl, -⟩ := (Rd.of_own hwv).shape
          have hT6 : w4.heap[w.heap.size + 1]? = some anZ := (hTu.block _ (Nat.lt_of_lt_of_le al h3.below.size) (fun ho => by have := HM.out _ (.inl ho); omega)).trans ((h3.below.block _ al).trans hZ6)
          have hg3 : w.heap.size + 1 < w3.heap.size := Nat.lt_of_lt_of_le al h3.below.size
          obtain ⟨e0, e1, e2, e3, e4, e5, e6, e7, e8, e9, e10, e11, ef, el⟩ := row12 hT6
          go_wp2
          have hresl : Tryz.f9.results = #[.cell 6 44] := by kernel_rfl
          refine bodyPost_ret (v := anV X.2 (.slice A1 X.2.gens.length k1) (.slice A2 X.2.words.length k2)) ?_ rfl ?_
          · simp only [results, hresl]
            go_simp
          · obtain ⟨s1, s2, s3, s4⟩ := set12_same w4 (w.heap.size + 1) (.int .i64 X.2.code) (.int .i64 X.2.sub) (.int .u64 X.2.gen) (.int .i64 X.2.count) (.int .u64 X.2.lost) (.int .i64 X.2.st.mode) (.int .i64 X.2.st.source) (.bool X.2.st.hold) (.int .i64 X.2.st.flags) (.int .u64 X.2.st.epoch) (.slice A1 X.2.gens.length k1) (.slice A2 X.2.words.length k2)
            exact post_up HM.out hb3 (Nat.le_succ _) hg3 hIs hTu hgv hwv hf s1 s2 s3 s4 (fun i hi => set12_other hi _ _ _ _ _ _ _ _ _ _ _ _)
      · rw [if_pos hE0]
        clear h hB hT hd hF hW hs hw hE
        go_enter Tryz.func9, Tryz.ntmps9
        go_wp2_with fail
        refine (HC.out _ (below_new2 w _ _)).mono ?_
        rintro e w3 ⟨rfl, hb3⟩
        have hb03 := (below_new2 w (clO c sv (.slice A' c.words.length cA')) anZ).trans (hb3.mono (by simp; omega))
        have hT6 : w3.heap[w.heap.size + 1]? = some anZ := (hb3.block _ (by simp)).trans (heap_two w _ _).2
        obtain ⟨b0, b1, b2, b3, b4, b5, b6, b7, b8, b9, b10, b11, bf, bl⟩ := row12 hT6
        go_wp2_with fail
        refine (refused_any E _).mono ?_
        rintro e w2 ⟨rfl, hb2⟩
        have hT6 : w2.heap[w.heap.size + 1]? = some anZ := (hb2.block _ bl).trans hT6
        obtain ⟨b0, b1, b2, b3, b4, b5, b6, b7, b8, b9, b10, b11, bf, bl⟩ := row12 hT6
        go_wp2
        have hresl : Tryz.f9.results = #[.cell 6 44] := by kernel_rfl
        refine bodyPost_ret (v := anR E) ?_ rfl ?_
        · simp only [results, hresl]
          go_simp
        · exact post_plain H.out (set12_below (below2 hb03 hb2) (Nat.le_succ _) _ _ _ _ _ _ _ _ _ _ _ _) rfl rfl

end Go.Proofs.YtpilfhjlfbjloaaGreatDoor
