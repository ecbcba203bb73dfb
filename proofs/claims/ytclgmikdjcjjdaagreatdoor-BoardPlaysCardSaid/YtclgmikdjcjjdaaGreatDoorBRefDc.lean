/-
  The walk of the reference's Do: Updated. Conditions: the document's blackboard in memory.
-/
import Derived.Test.YtclgmikdjcjjdaaGreatDoorBRefDb
namespace Go.Proofs.YtclgmikdjcjjdaaGreatDoor
open Go.RowKit


set_option maxRecDepth 100000 in
set_option maxHeartbeats 1600000 in
theorem rdo_updno {base : Nat} {w : World} {lab : Nat → Option Lb} {m : RMem} {X : Rb} (h : IsRef base w lab m X) (hg : RGood X) {task : Nat} (hk : task < X.tasks) (c : Cl) (sv : Value) (A' : Option Addr) (wl cA' : Nat) (hwl : wl = c.words.length) (hs : Rd w sv 1 c.set.length (c.set.map (Value.int .i64))) (hsn : c.set.length ≤ 100) (hwn : wl ≤ 100) (hrw : Rd w (.slice A' wl cA') 1 wl (u64V c.words)) (hc : callS c = 0)
    (h3 : (c.kind == 3) = false) (h5 : (c.kind == 5) = false) (h6 : (c.kind == 6) = true) (hno : c.sub < 0 ∨ ((X.subs task).length : Int) ≤ c.sub) :
    Calls Tryz.prog 10 #[.pointer (some ⟨m.bb, 0, none⟩), .int .i64 task, clV c sv (.slice A' wl cA')] w fun e w' => RPost base w lab m (X, refS 14) e w' := by
  obtain ⟨b6, o6, c6, hv6, h6a, h6b, h6l, h6c⟩ := h.rdSubs.open_ (by omega)
  have q6 := h6c _ _ (range_at hk m.subsT)
  obtain ⟨A, cA, hvA, hA1, hA2, -⟩ := (h.rdSubsT hk).shape
  rw [hvA] at q6
  have t6 := (row12 h.blk).2.2.2.2.2.2.1
  rw [hv6] at t6
  obtain ⟨n, hn⟩ : ∃ n, n = (X.subs task).length := ⟨_, rfl⟩
  rw [← hn] at q6 hA1
  have hn8 : n ≤ 8 := by rw [hn]; exact hg.push.subs task
  have hbl := block_lt h.blk
  have HvA := hide hvA
  have Hn := hide hn
  have hT8 := hg.push.tasks
  clear hvA hn h6c hv6
  have q60 := t6
  clear t6
  rw [← Hn.out] at hno
  by_cases h0 : c.sub < 0
  · have d0 : decide (c.sub < 0) = true := by simpa using h0
    clear hno
    obtain ⟨kd, tp, sb, cp, rk, so, md, fl, fr, set, ws⟩ := c
    simp only at hwl hs hsn hc h3 h5 h6 h0 d0 ⊢
    obtain ⟨t0, t1, t2, t3, t4, t5, t6, t7, t8, t9, t10, t11, tf, tl⟩ := row12 h.blk
    obtain ⟨T, hT⟩ : ∃ T, T = X.tasks := ⟨_, rfl⟩
    have hk' := hk
    rw [← hT] at t0 hk'
    have hT63 : T ≤ 9223372036854775807 := by have := hg.push.tasks; omega
    have HCH := hide (fun (w' : World) (hb : Below w.heap.size w w') => check17_any ⟨kd, tp, sb, cp, rk, so, md, fl, fr, set, ws⟩ sv A' set.length wl cA' w' rfl hsn hwl hwn (hs.below hb))
    have HCC := hide hc
    have H := hide h
    have HG := hide hg
    have HT := hide hT
    have Hwl := hide hwl
    have Hs := hide hs
    have HrW := hide hrw
    clear h hg hT hc hwl hs hrw t1 t2 t3 t4 t5 t6 t7 t8 t9 t10 t11 tf
    go_enter Tryz.func10, Tryz.ntmps10
    go_wp2_with fail
    obtain ⟨Z, hZ⟩ : ∃ Z, Z = (w.alloc (clO ⟨kd, tp, sb, cp, rk, so, md, fl, fr, set, ws⟩ sv (.slice A' wl cA'))).alloc anZ := ⟨_, rfl⟩
    have hZb : Below w.heap.size w Z := by rw [hZ]; exact below_new2 w _ _
    have hZ5 : Z.heap[w.heap.size]? = some (clO ⟨kd, tp, sb, cp, rk, so, md, fl, fr, set, ws⟩ sv (.slice A' wl cA')) := by rw [hZ]; exact (heap_two w _ _).1
    have hZ6 : Z.heap[w.heap.size + 1]? = some anZ := by rw [hZ]; exact (heap_two w _ _).2
    rw [← hZ]
    have HZ := hide hZ
    clear hZ
    obtain ⟨t0, t1, t2, t3, t4, t5, t6, t7, t8, t9, t10, tf, tl⟩ := row11 hZ5
    obtain ⟨a0, a1, a2, a3, a4, a5, a6, a7, a8, a9, a10, a11, af, al⟩ := row12 hZ6
    refine (HCH.out Z hZb).mono ?_
    rintro e Y ⟨he, hbY⟩
    rw [HCC.out] at he
    subst he
    have HYb := hide (hZb.trans (hbY.mono hZb.size))
    have HY5 := hide ((hbY.block _ tl).trans hZ5)
    have HY6 := hide ((hbY.block _ al).trans hZ6)
    have HZs := hide (show w.heap.size + 1 < Y.heap.size from Nat.lt_of_lt_of_le al hbY.size)
    clear t0 t1 t2 t3 t4 t5 t6 t7 t8 t9 t10 tf tl a0 a1 a2 a3 a4 a5 a6 a7 a8 a9 a10 a11 af al hZ5 hZ6 hbY hZb HZ
    obtain ⟨t0, t1, t2, t3, t4, t5, t6, t7, t8, t9, t10, tf, tl⟩ := row11 HY5.out
    obtain ⟨a0, a1, a2, a3, a4, a5, a6, a7, a8, a9, a10, a11, af, al⟩ := row12 HY6.out
    have z6 := (HYb.out.cell (p := ⟨m.bb, 6, none⟩) hbl).trans q60
    have z7 := (HYb.out.cell (p := ⟨b6, o6 + task, none⟩) h6l).trans q6
    have zl := Nat.lt_of_lt_of_le hbl HYb.out.size
    have zl6 := Nat.lt_of_lt_of_le h6l HYb.out.size
    rw [← HT.out] at z6
    rw [← HT.out] at h6a hT8
    go_wp2_with fail
    go_quiet (fail)
    go_wp2
    have hresl : Tryz.f10.results = #[.cell 6 41] := by kernel_rfl
    refine bodyPost_ret (v := anV (refS 14) nilS nilS) ?_ rfl ?_
    · simp only [results, hresl]
      go_simp
      simp [refS, rg0]
    · exact rpost_plain H.out (set12_below (below_drewN HYb.out _) (Nat.le_succ _) _ _ _ _ _ _ _ _ _ _ _ _) rfl rfl
  · have hno2 : (n : Int) ≤ c.sub := by omega
    have d0 : decide (c.sub < 0) = false := by simpa using h0
    have d1 : decide ((n : Int) ≤ c.sub) = true := by simpa using hno2
    clear hno
    obtain ⟨kd, tp, sb, cp, rk, so, md, fl, fr, set, ws⟩ := c
    simp only at hwl hs hsn hc h3 h5 h6 h0 d0 d1 hno2 ⊢
    obtain ⟨t0, t1, t2, t3, t4, t5, t6, t7, t8, t9, t10, t11, tf, tl⟩ := row12 h.blk
    obtain ⟨T, hT⟩ : ∃ T, T = X.tasks := ⟨_, rfl⟩
    have hk' := hk
    rw [← hT] at t0 hk'
    have hT63 : T ≤ 9223372036854775807 := by have := hg.push.tasks; omega
    have HCH := hide (fun (w' : World) (hb : Below w.heap.size w w') => check17_any ⟨kd, tp, sb, cp, rk, so, md, fl, fr, set, ws⟩ sv A' set.length wl cA' w' rfl hsn hwl hwn (hs.below hb))
    have HCC := hide hc
    have H := hide h
    have HG := hide hg
    have HT := hide hT
    have Hwl := hide hwl
    have Hs := hide hs
    have HrW := hide hrw
    clear h hg hT hc hwl hs hrw t1 t2 t3 t4 t5 t6 t7 t8 t9 t10 t11 tf
    go_enter Tryz.func10, Tryz.ntmps10
    go_wp2_with fail
    obtain ⟨Z, hZ⟩ : ∃ Z, Z = (w.alloc (clO ⟨kd, tp, sb, cp, rk, so, md, fl, fr, set, ws⟩ sv (.slice A' wl cA'))).alloc anZ := ⟨_, rfl⟩
    have hZb : Below w.heap.size w Z := by rw [hZ]; exact below_new2 w _ _
    have hZ5 : Z.heap[w.heap.size]? = some (clO ⟨kd, tp, sb, cp, rk, so, md, fl, fr, set, ws⟩ sv (.slice A' wl cA')) := by rw [hZ]; exact (heap_two w _ _).1
    have hZ6 : Z.heap[w.heap.size + 1]? = some anZ := by rw [hZ]; exact (heap_two w _ _).2
    rw [← hZ]
    have HZ := hide hZ
    clear hZ
    obtain ⟨t0, t1, t2, t3, t4, t5, t6, t7, t8, t9, t10, tf, tl⟩ := row11 hZ5
    obtain ⟨a0, a1, a2, a3, a4, a5, a6, a7, a8, a9, a10, a11, af, al⟩ := row12 hZ6
    refine (HCH.out Z hZb).mono ?_
    rintro e Y ⟨he, hbY⟩
    rw [HCC.out] at he
    subst he
    have HYb := hide (hZb.trans (hbY.mono hZb.size))
    have HY5 := hide ((hbY.block _ tl).trans hZ5)
    have HY6 := hide ((hbY.block _ al).trans hZ6)
    have HZs := hide (show w.heap.size + 1 < Y.heap.size from Nat.lt_of_lt_of_le al hbY.size)
    clear t0 t1 t2 t3 t4 t5 t6 t7 t8 t9 t10 tf tl a0 a1 a2 a3 a4 a5 a6 a7 a8 a9 a10 a11 af al hZ5 hZ6 hbY hZb HZ
    obtain ⟨t0, t1, t2, t3, t4, t5, t6, t7, t8, t9, t10, tf, tl⟩ := row11 HY5.out
    obtain ⟨a0, a1, a2, a3, a4, a5, a6, a7, a8, a9, a10, a11, af, al⟩ := row12 HY6.out
    have z6 := (HYb.out.cell (p := ⟨m.bb, 6, none⟩) hbl).trans q60
    have z7 := (HYb.out.cell (p := ⟨b6, o6 + task, none⟩) h6l).trans q6
    have zl := Nat.lt_of_lt_of_le hbl HYb.out.size
    have zl6 := Nat.lt_of_lt_of_le h6l HYb.out.size
    rw [← HT.out] at z6
    rw [← HT.out] at h6a hT8
    go_wp2_with fail
    go_quiet (fail)
    go_wp2
    have hresl : Tryz.f10.results = #[.cell 6 41] := by kernel_rfl
    refine bodyPost_ret (v := anV (refS 14) nilS nilS) ?_ rfl ?_
    · simp only [results, hresl]
      go_simp
      simp [refS, rg0]
    · exact rpost_plain H.out (set12_below (below_drewN HYb.out _) (Nat.le_succ _) _ _ _ _ _ _ _ _ _ _ _ _) rfl rfl

set_option maxRecDepth 100000 in
set_option maxHeartbeats 1600000 in
theorem rdo_updyes {base : Nat} {w : World} {lab : Nat → Option Lb} {m : RMem} {X : Rb} (h : IsRef base w lab m X) (hg : RGood X) {task : Nat} (hk : task < X.tasks) (c : Cl) (sv : Value) (A' : Option Addr) (wl cA' : Nat) (hwl : wl = c.words.length) (hs : Rd w sv 1 c.set.length (c.set.map (Value.int .i64))) (hsn : c.set.length ≤ 100) (hwn : wl ≤ 100) (hrw : Rd w (.slice A' wl cA') 1 wl (u64V c.words)) (hc : callS c = 0)
    (h3 : (c.kind == 3) = false) (h5 : (c.kind == 5) = false) (h6 : (c.kind == 6) = true) {i : Nat} {r : Rs} (hi : c.sub = i) (hr : (X.subs task)[i]? = some r) :
    Calls Tryz.prog 10 #[.pointer (some ⟨m.bb, 0, none⟩), .int .i64 task, clV c sv (.slice A' wl cA')] w fun e w' => RPost base w lab m (X, { refS 0 with gen := (X.al r.topic).length - 1, count := r.queue.length, lost := r.lost }) e w' := by
  obtain ⟨b6, o6, c6, hv6, h6a, h6b, h6l, h6c⟩ := h.rdSubs.open_ (by omega)
  have q6 := h6c _ _ (range_at hk m.subsT)
  obtain ⟨A, cA, hvA, hA1, hA2, -⟩ := (h.rdSubsT hk).shape
  rw [hvA] at q6
  have t6 := (row12 h.blk).2.2.2.2.2.2.1
  rw [hv6] at t6
  obtain ⟨n, hn⟩ : ∃ n, n = (X.subs task).length := ⟨_, rfl⟩
  rw [← hn] at q6 hA1
  have hn8 : n ≤ 8 := by rw [hn]; exact hg.push.subs task
  have hbl := block_lt h.blk
  have HvA := hide hvA
  have Hn := hide hn
  have hT8 := hg.push.tasks
  clear hvA hn h6c hv6
  have q60 := t6
  clear t6
  have hin : i < n := by have := (List.getElem?_eq_some_iff.1 hr).1; rw [Hn.out]; exact this
  obtain ⟨hrt, hrk, hrg, -⟩ := hg.subs task r (List.mem_of_getElem? hr)
  have hal := hg.recs r.topic hrt
  obtain ⟨G, hG⟩ : ∃ G, (X.al r.topic).length = G + 1 := ⟨(X.al r.topic).length - 1, by omega⟩
  have HGE := hide (fun (w' : World) (hb : Below w.heap.size w w') => rgen_any (h.below hb) hrt hG (by omega))
  have hge : (X.al r.topic).length - 1 = G := by omega
  rw [hge]
  obtain ⟨P, hP⟩ : ∃ P, P = (X, { refS 0 with gen := G, count := r.queue.length, lost := r.lost }) := ⟨_, rfl⟩
  rw [← hP]
  have HP := hide hP
  clear hP
  have HR := hide (fun (w' : World) (hb : Below w.heap.size w w') => (h.below hb).subAt hk hr)
  obtain ⟨A8, c8, hv8, hq8a, hq8b, -⟩ := (h.ownQ hk hr).rd.shape
  have Hv8 := hide hv8
  have Hr := hide hr
  clear hrt hrk hrg hal hG hge hv8 hr
  obtain ⟨kd, tp, sb, cp, rk, so, md, fl, fr, set, ws⟩ := c
  simp only at hwl hs hsn hc h3 h5 h6 hi ⊢
  subst hi
  obtain ⟨t0, t1, t2, t3, t4, t5, t6, t7, t8, t9, t10, t11, tf, tl⟩ := row12 h.blk
  obtain ⟨T, hT⟩ : ∃ T, T = X.tasks := ⟨_, rfl⟩
  have hk' := hk
  rw [← hT] at t0 hk'
  have hT63 : T ≤ 9223372036854775807 := by have := hg.push.tasks; omega
  have HCH := hide (fun (w' : World) (hb : Below w.heap.size w w') => check17_any ⟨kd, tp, i, cp, rk, so, md, fl, fr, set, ws⟩ sv A' set.length wl cA' w' rfl hsn hwl hwn (hs.below hb))
  have HCC := hide hc
  have H := hide h
  have HG := hide hg
  have HT := hide hT
  have Hwl := hide hwl
  have Hs := hide hs
  have HrW := hide hrw
  clear h hg hT hc hwl hs hrw t1 t2 t3 t4 t5 t6 t7 t8 t9 t10 t11 tf
  go_enter Tryz.func10, Tryz.ntmps10
  go_wp2_with fail
  obtain ⟨Z, hZ⟩ : ∃ Z, Z = (w.alloc (clO ⟨kd, tp, i, cp, rk, so, md, fl, fr, set, ws⟩ sv (.slice A' wl cA'))).alloc anZ := ⟨_, rfl⟩
  have hZb : Below w.heap.size w Z := by rw [hZ]; exact below_new2 w _ _
  have hZ5 : Z.heap[w.heap.size]? = some (clO ⟨kd, tp, i, cp, rk, so, md, fl, fr, set, ws⟩ sv (.slice A' wl cA')) := by rw [hZ]; exact (heap_two w _ _).1
  have hZ6 : Z.heap[w.heap.size + 1]? = some anZ := by rw [hZ]; exact (heap_two w _ _).2
  rw [← hZ]
  have HZ := hide hZ
  clear hZ
  obtain ⟨t0, t1, t2, t3, t4, t5, t6, t7, t8, t9, t10, tf, tl⟩ := row11 hZ5
  obtain ⟨a0, a1, a2, a3, a4, a5, a6, a7, a8, a9, a10, a11, af, al⟩ := row12 hZ6
  refine (HCH.out Z hZb).mono ?_
  rintro e Y ⟨he, hbY⟩
  rw [HCC.out] at he
  subst he
  have HYb := hide (hZb.trans (hbY.mono hZb.size))
  have HY5 := hide ((hbY.block _ tl).trans hZ5)
  have HY6 := hide ((hbY.block _ al).trans hZ6)
  have HZs := hide (show w.heap.size + 1 < Y.heap.size from Nat.lt_of_lt_of_le al hbY.size)
  clear t0 t1 t2 t3 t4 t5 t6 t7 t8 t9 t10 tf tl a0 a1 a2 a3 a4 a5 a6 a7 a8 a9 a10 a11 af al hZ5 hZ6 hbY hZb HZ
  obtain ⟨t0, t1, t2, t3, t4, t5, t6, t7, t8, t9, t10, tf, tl⟩ := row11 HY5.out
  obtain ⟨a0, a1, a2, a3, a4, a5, a6, a7, a8, a9, a10, a11, af, al⟩ := row12 HY6.out
  have z6 := (HYb.out.cell (p := ⟨m.bb, 6, none⟩) hbl).trans q60
  have z7 := (HYb.out.cell (p := ⟨b6, o6 + task, none⟩) h6l).trans q6
  have zl := Nat.lt_of_lt_of_le hbl HYb.out.size
  have zl6 := Nat.lt_of_lt_of_le h6l HYb.out.size
  rw [← HT.out] at z6
  rw [← HT.out] at h6a hT8
  go_wp2_with fail
  go_quiet (fail)
  generalize hV : Y.drewN _ = V
  have hVB : Below Y.heap.size Y V := by rw [← hV]; exact below_drewN (Below.refl _ Y) _
  have HVb := hide (HYb.out.trans (hVB.mono HYb.out.size))
  have HV6 := hide ((hVB.block _ al).trans HY6.out)
  have HV5 := hide ((hVB.block _ tl).trans HY5.out)
  clear hV hVB a0 a1 a2 a3 a4 a5 a6 a7 a8 a9 a10 a11 af al t0 t1 t2 t3 t4 t5 t6 t7 t8 t9 t10 tf tl z6 z7 zl zl6
  obtain ⟨t0, t1, t2, t3, t4, t5, t6, t7, t8, t9, t10, tf, tl⟩ := row11 HV5.out
  have z6 := (HVb.out.cell (p := ⟨m.bb, 6, none⟩) hbl).trans q60
  have z7 := (HVb.out.cell (p := ⟨b6, o6 + task, none⟩) h6l).trans q6
  have zl := Nat.lt_of_lt_of_le hbl HVb.out.size
  have zl6 := Nat.lt_of_lt_of_le h6l HVb.out.size
  rw [← HT.out] at z6
  obtain ⟨b7, c7, hv7, h7a, h7b, h7l, -, -, h7c⟩ := HR.out V HVb.out
  rw [HvA.out] at hv7
  cases hv7
  have d0 := h7c 0 _ rfl
  rw [Nat.add_zero] at d0
  have d1 := h7c 1 _ rfl
  have d2 := h7c 2 _ rfl
  have d3 := h7c 3 _ rfl
  have d4 := h7c 4 _ rfl
  have d5 := h7c 5 _ rfl
  rw [Hv8.out] at d3
  rw [← Hn.out] at h7a
  obtain ⟨rt, rr, rc, rq, rg, rl⟩ := r
  simp only at d0 d1 d2 d3 d4 d5 HGE HR Hr Hv8 hq8a HP
  obtain ⟨ql, hql⟩ : ∃ y, y = rq.length := ⟨_, rfl⟩
  rw [← hql] at d3 hq8a
  have Hql := hide hql
  clear HR Hr Hv8 h7c hql
  go_wp2_with fail
  have HK : ∀ w', Below V.heap.size V w' → w'.cell? ⟨m.bb, 6, none⟩ = some (.slice (some ⟨b6, o6, none⟩) T c6) ∧ w'.cell? ⟨b6, o6 + task, none⟩ = some (.slice (some ⟨b7, 0, none⟩) n cA) ∧ w'.cell? ⟨w.heap.size, 2, none⟩ = some (.int .i64 i) ∧ w'.cell? ⟨b7, i * 6, none⟩ = some (.int .i64 rt) ∧ w'.cell? ⟨b7, i * 6 + 1, none⟩ = some (.int .i64 rr) ∧ w'.cell? ⟨b7, i * 6 + 2, none⟩ = some (.int .i64 rc) ∧ w'.cell? ⟨b7, i * 6 + 3, none⟩ = some (.slice A8 ql c8) ∧ w'.cell? ⟨b7, i * 6 + 4, none⟩ = some (.int .u64 rg) ∧ w'.cell? ⟨b7, i * 6 + 5, none⟩ = some (.int .u64 rl) ∧ Below V.heap.size V w' := fun w' hB => ⟨(hB.cell (p := ⟨m.bb, 6, none⟩) zl).trans z6, (hB.cell (p := ⟨b6, o6 + task, none⟩) zl6).trans z7, (hB.cell (p := ⟨w.heap.size, 2, none⟩) tl).trans t2, (hB.cell (p := ⟨b7, i * 6, none⟩) h7l).trans d0, (hB.cell (p := ⟨b7, i * 6 + 1, none⟩) h7l).trans d1, (hB.cell (p := ⟨b7, i * 6 + 2, none⟩) h7l).trans d2, (hB.cell (p := ⟨b7, i * 6 + 3, none⟩) h7l).trans d3, (hB.cell (p := ⟨b7, i * 6 + 4, none⟩) h7l).trans d4, (hB.cell (p := ⟨b7, i * 6 + 5, none⟩) h7l).trans d5, hB⟩
  have HK1 := HK _ (Below.refl _ V).drew
  go_region_held3 (fun w' => w'.cell? ⟨m.bb, 6, none⟩ = some (.slice (some ⟨b6, o6, none⟩) T c6) ∧ w'.cell? ⟨b6, o6 + task, none⟩ = some (.slice (some ⟨b7, 0, none⟩) n cA) ∧ w'.cell? ⟨w.heap.size, 2, none⟩ = some (.int .i64 i) ∧ w'.cell? ⟨b7, i * 6, none⟩ = some (.int .i64 rt) ∧ w'.cell? ⟨b7, i * 6 + 1, none⟩ = some (.int .i64 rr) ∧ w'.cell? ⟨b7, i * 6 + 2, none⟩ = some (.int .i64 rc) ∧ w'.cell? ⟨b7, i * 6 + 3, none⟩ = some (.slice A8 ql c8) ∧ w'.cell? ⟨b7, i * 6 + 4, none⟩ = some (.int .u64 rg) ∧ w'.cell? ⟨b7, i * 6 + 5, none⟩ = some (.int .u64 rl) ∧ Below V.heap.size V w')
    (first | with_reducible assumption | with_reducible exact HK1 | exact HK _ (below_new V _).drew | exact HK _ (below_new V _))
    (fail)
  obtain ⟨U, hUe⟩ : ∃ U, U = (V.alloc (.cells #[.int .i64 rt, .int .i64 rr, .int .i64 rc, .slice A8 ql c8, .int .u64 rg, .int .u64 rl] 87)).drew := ⟨_, rfl⟩
  have hU : U.heap[V.heap.size]? = some (.cells #[.int .i64 rt, .int .i64 rr, .int .i64 rc, .slice A8 ql c8, .int .u64 rg, .int .u64 rl] 87) := by rw [hUe]; exact heap_alloc_new V _
  have hUB : Below V.heap.size V U := by rw [hUe]; exact (below_new V _).drew
  rw [← hUe]
  clear hUe HK HK1 d0 d1 d2 d3 d4 d5 z6 z7 zl zl6 t0 t1 t2 t3 t4 t5 t6 t7 t8 t9 t10 tf tl
  obtain ⟨x0, x1, x2, x3, x4, x5, xf, xl⟩ := row6 hU
  have HUb := hide (HVb.out.trans (hUB.mono HVb.out.size))
  have HU6 := hide ((hUB.block _ (block_lt HV6.out)).trans HV6.out)
  clear hU hUB
  go_wp2_with fail
  refine wp_region_ext_tail 9 (by kernel_rfl) (by kernel_rfl) (fun _ _ d _ _ h => by cases d <;> exact h) ?_
  simp only [List.take_succ_cons, List.take_zero, List.drop_succ_cons, List.drop_zero]
  repeat (first
    | go_big_quiet_skip
    | (go_big_quiet_want
       first
         | (apply quiet_val
            · intro wq hq
              have hcq := hq.cells
              have hzq := hq.lift
              go_simp
              try go_bits
              first | done | with_reducible rfl
            (try simp only [Act.put, List.setIfInBounds_toArray, List.set_cons_zero, List.set_cons_succ])
            go_big_quiet_on)
         | (apply quiet_call
            · intro wq hq
              have hcq := hq.cells
              have hzq := hq.lift
              go_simp
              first
                | (go_at_call 15; exact (HGE.out wq (HUb.out.trans (hq.below.mono HUb.out.size))).mono fun e w' hp => ⟨hp.1, hq.call hp.2⟩)
            (try simp only [Act.put, List.setIfInBounds_toArray, List.set_cons_zero, List.set_cons_succ])
            go_big_quiet_on)))
  refine wpQuiet_nil ?_
  intro w3 h3
  have hb3 := HUb.out.trans (h3.below.mono HUb.out.size)
  obtain ⟨b0, b1, b2, b3, b4, b5, b6, b7, b8, b9, b10, b11, bf, bl⟩ := row12 ((h3.below.block _ (block_lt HU6.out)).trans HU6.out)
  clear x0 x1 x2 x3 x4 x5 xf xl
  go_wp2
  have hPE : P = (X, { refS 0 with gen := G, count := ql, lost := rl }) := by rw [HP.out, Hql.out]
  rw [hPE]
  have hresl : Tryz.f10.results = #[.cell 6 41] := by kernel_rfl
  refine bodyPost_ret (v := anV { refS 0 with gen := G, count := ql, lost := rl } nilS nilS) ?_ rfl ?_
  · simp only [results, hresl]
    go_simp
    simp [refS, rg0]
  · exact rpost_plain H.out (set12_below hb3 (Nat.le_succ _) _ _ _ _ _ _ _ _ _ _ _ _) rfl rfl

end Go.Proofs.YtclgmikdjcjjdaaGreatDoor
