/-
  The walk of the reference's Do: calls that are refused, Poll, Mode, and calls of a topic. Conditions: the document's blackboard in memory.
-/
import Derived.Test.YtclgmikdjcjjdaaGreatDoorBRefQ
import Derived.Test.YtclgmikdjcjjdaaGreatDoorBRef17C
namespace Go.Proofs.YtclgmikdjcjjdaaGreatDoor
open Go.RowKit


set_option maxRecDepth 100000 in
set_option maxHeartbeats 1600000 in
theorem rdo_out {base : Nat} {w : World} {lab : Nat → Option Lb} {m : RMem} {X : Rb} (h : IsRef base w lab m X) (hg : RGood X) (task : Int) (c : Cl) (sv wv : Value) (ho : task < 0 ∨ (X.tasks : Int) ≤ task) :
    Calls Tryz.prog 10 #[.pointer (some ⟨m.bb, 0, none⟩), .int .i64 task, clV c sv wv] w fun e w' => RPost base w lab m (X, refS 14) e w' := by
  obtain ⟨kd, tp, sb, cp, rk, so, md, fl, fr, set, ws⟩ := c
  obtain ⟨t0, t1, t2, t3, t4, t5, t6, t7, t8, t9, t10, t11, tf, tl⟩ := row12 h.blk
  obtain ⟨T, hT⟩ : ∃ T, T = X.tasks := ⟨_, rfl⟩
  rw [← hT] at t0 ho
  have hT63 : T ≤ 9223372036854775807 := by have := hg.push.tasks; omega
  have H := hide h
  clear h hT t1 t2 t3 t4 t5 t6 t7 t8 t9 t10 t11 tf
  by_cases h0 : task < 0
  · have d0 : decide (task < 0) = true := by simpa using h0
    go_enter Tryz.func10, Tryz.ntmps10
    go_wp2
    have hresl : Tryz.f10.results = #[.cell 6 41] := by kernel_rfl
    refine bodyPost_ret (v := anV (refS 14) nilS nilS) ?_ rfl ?_
    · simp only [results, hresl]
      go_simp
      simp [refS, rg0]
    · exact rpost_plain H.out (below_new2 w _ _) rfl rfl
  · have h1 : (T : Int) ≤ task := by omega
    have d0 : decide (task < 0) = false := by simpa using h0
    have d1 : decide ((T : Int) ≤ task) = true := by simpa using h1
    go_enter Tryz.func10, Tryz.ntmps10
    go_wp2
    have hresl : Tryz.f10.results = #[.cell 6 41] := by kernel_rfl
    refine bodyPost_ret (v := anV (refS 14) nilS nilS) ?_ rfl ?_
    · simp only [results, hresl]
      go_simp
      simp [refS, rg0]
    · exact rpost_plain H.out (below_new2 w _ _) rfl rfl

set_option maxRecDepth 100000 in
set_option maxHeartbeats 1600000 in
theorem rdo_bad {base : Nat} {w : World} {lab : Nat → Option Lb} {m : RMem} {X : Rb} (h : IsRef base w lab m X) (hg : RGood X) {task : Nat} (hk : task < X.tasks) (c : Cl) (sv : Value) (A' : Option Addr) (wl cA' : Nat) (hwl : wl = c.words.length) (hs : Rd w sv 1 c.set.length (c.set.map (Value.int .i64))) (hsn : c.set.length ≤ 100) (hwn : wl ≤ 100) (hrw : Rd w (.slice A' wl cA') 1 wl (u64V c.words)) {E : Int} (hc : callS c = E) (hE : (E != 0) = true) :
    Calls Tryz.prog 10 #[.pointer (some ⟨m.bb, 0, none⟩), .int .i64 task, clV c sv (.slice A' wl cA')] w fun e w' => RPost base w lab m (X, refS E) e w' := by
  obtain ⟨kd, tp, sb, cp, rk, so, md, fl, fr, set, ws⟩ := c
  simp only at hwl hs hsn hc ⊢
  obtain ⟨t0, t1, t2, t3, t4, t5, t6, t7, t8, t9, t10, t11, tf, tl⟩ := row12 h.blk
  obtain ⟨T, hT⟩ : ∃ T, T = X.tasks := ⟨_, rfl⟩
  have hk' := hk
  rw [← hT] at t0 hk'
  have hT63 : T ≤ 9223372036854775807 := by have := hg.push.tasks; omega
  have HCH := hide (fun (w' : World) (hb : Below w.heap.size w w') => check17_any ⟨kd, tp, sb, cp, rk, so, md, fl, fr, set, ws⟩ sv A' set.length wl cA' w' rfl hsn hwl hwn (hs.below hb))
  have HCC := hide hc
  have H := hide h
  have HG := hide hg
  have HT := hide hT
  have Hwl := hide hwl
  have Hs := hide hs
  have HrW := hide hrw
  clear h hg hT hc hwl hs hrw t1 t2 t3 t4 t5 t6 t7 t8 t9 t10 t11 tf
  go_enter Tryz.func10, Tryz.ntmps10
  go_wp2_with fail
  obtain ⟨Z, hZ⟩ : ∃ Z, Z = (w.alloc (clO ⟨kd, tp, sb, cp, rk, so, md, fl, fr, set, ws⟩ sv (.slice A' wl cA'))).alloc anZ := ⟨_, rfl⟩
  have hZb : Below w.heap.size w Z := by rw [hZ]; exact below_new2 w _ _
  have hZ5 : Z.heap[w.heap.size]? = some (clO ⟨kd, tp, sb, cp, rk, so, md, fl, fr, set, ws⟩ sv (.slice A' wl cA')) := by rw [hZ]; exact (heap_two w _ _).1
  have hZ6 : Z.heap[w.heap.size + 1]? = some anZ := by rw [hZ]; exact (heap_two w _ _).2
  rw [← hZ]
  have HZ := hide hZ
  clear hZ
  obtain ⟨t0, t1, t2, t3, t4, t5, t6, t7, t8, t9, t10, tf, tl⟩ := row11 hZ5
  obtain ⟨a0, a1, a2, a3, a4, a5, a6, a7, a8, a9, a10, a11, af, al⟩ := row12 hZ6
  refine (HCH.out Z hZb).mono ?_
  rintro e Y ⟨he, hbY⟩
  rw [HCC.out] at he
  subst he
  have HYb := hide (hZb.trans (hbY.mono hZb.size))
  have HY5 := hide ((hbY.block _ tl).trans hZ5)
  have HY6 := hide ((hbY.block _ al).trans hZ6)
  have HZs := hide (show w.heap.size + 1 < Y.heap.size from Nat.lt_of_lt_of_le al hbY.size)
  clear t0 t1 t2 t3 t4 t5 t6 t7 t8 t9 t10 tf tl a0 a1 a2 a3 a4 a5 a6 a7 a8 a9 a10 a11 af al hZ5 hZ6 hbY hZb HZ
  obtain ⟨t0, t1, t2, t3, t4, t5, t6, t7, t8, t9, t10, tf, tl⟩ := row11 HY5.out
  obtain ⟨a0, a1, a2, a3, a4, a5, a6, a7, a8, a9, a10, a11, af, al⟩ := row12 HY6.out
  go_wp2
  have hresl : Tryz.f10.results = #[.cell 6 41] := by kernel_rfl
  refine bodyPost_ret (v := anV (refS E) nilS nilS) ?_ rfl ?_
  · simp only [results, hresl]
    go_simp
    simp [refS, rg0]
  · exact rpost_plain H.out (set12_below HYb.out (Nat.le_succ _) _ _ _ _ _ _ _ _ _ _ _ _) rfl rfl

set_option maxRecDepth 100000 in
set_option maxHeartbeats 1600000 in
theorem rdo_mode {base : Nat} {w : World} {lab : Nat → Option Lb} {m : RMem} {X : Rb} (h : IsRef base w lab m X) (hg : RGood X) {task : Nat} (hk : task < X.tasks) (c : Cl) (sv : Value) (A' : Option Addr) (wl cA' : Nat) (hwl : wl = c.words.length) (hs : Rd w sv 1 c.set.length (c.set.map (Value.int .i64))) (hsn : c.set.length ≤ 100) (hwn : wl ≤ 100) (hrw : Rd w (.slice A' wl cA') 1 wl (u64V c.words)) (hc : callS c = 0)
    (h3 : (c.kind == 3) = false) (h5 : (c.kind == 5) = false) (h6 : (c.kind == 6) = false) (h7 : (c.kind == 7) = false) (h8 : (c.kind == 8) = false) (h9 : (c.kind == 9) = true) :
    Calls Tryz.prog 10 #[.pointer (some ⟨m.bb, 0, none⟩), .int .i64 task, clV c sv (.slice A' wl cA')] w fun e w' => RPost base w lab m (X, { refS 0 with st := X.st }) e w' := by
  obtain ⟨kd, tp, sb, cp, rk, so, md, fl, fr, set, ws⟩ := c
  simp only at hwl hs hsn hc h3 h5 h6 h7 h8 h9 ⊢
  obtain ⟨t0, t1, t2, t3, t4, t5, t6, t7, t8, t9, t10, t11, tf, tl⟩ := row12 h.blk
  obtain ⟨T, hT⟩ : ∃ T, T = X.tasks := ⟨_, rfl⟩
  have hk' := hk
  rw [← hT] at t0 hk'
  have hT63 : T ≤ 9223372036854775807 := by have := hg.push.tasks; omega
  have HCH := hide (fun (w' : World) (hb : Below w.heap.size w w') => check17_any ⟨kd, tp, sb, cp, rk, so, md, fl, fr, set, ws⟩ sv A' set.length wl cA' w' rfl hsn hwl hwn (hs.below hb))
  have HCC := hide hc
  have H := hide h
  have HG := hide hg
  have HT := hide hT
  have Hwl := hide hwl
  have Hs := hide hs
  have HrW := hide hrw
  clear h hg hT hc hwl hs hrw t1 t2 t3 t4 t5 t6 t7 t8 t9 t10 t11 tf
  go_enter Tryz.func10, Tryz.ntmps10
  go_wp2_with fail
  obtain ⟨Z, hZ⟩ : ∃ Z, Z = (w.alloc (clO ⟨kd, tp, sb, cp, rk, so, md, fl, fr, set, ws⟩ sv (.slice A' wl cA'))).alloc anZ := ⟨_, rfl⟩
  have hZb : Below w.heap.size w Z := by rw [hZ]; exact below_new2 w _ _
  have hZ5 : Z.heap[w.heap.size]? = some (clO ⟨kd, tp, sb, cp, rk, so, md, fl, fr, set, ws⟩ sv (.slice A' wl cA')) := by rw [hZ]; exact (heap_two w _ _).1
  have hZ6 : Z.heap[w.heap.size + 1]? = some anZ := by rw [hZ]; exact (heap_two w _ _).2
  rw [← hZ]
  have HZ := hide hZ
  clear hZ
  obtain ⟨t0, t1, t2, t3, t4, t5, t6, t7, t8, t9, t10, tf, tl⟩ := row11 hZ5
  obtain ⟨a0, a1, a2, a3, a4, a5, a6, a7, a8, a9, a10, a11, af, al⟩ := row12 hZ6
  refine (HCH.out Z hZb).mono ?_
  rintro e Y ⟨he, hbY⟩
  rw [HCC.out] at he
  subst he
  have HYb := hide (hZb.trans (hbY.mono hZb.size))
  have HY5 := hide ((hbY.block _ tl).trans hZ5)
  have HY6 := hide ((hbY.block _ al).trans hZ6)
  have HZs := hide (show w.heap.size + 1 < Y.heap.size from Nat.lt_of_lt_of_le al hbY.size)
  clear t0 t1 t2 t3 t4 t5 t6 t7 t8 t9 t10 tf tl a0 a1 a2 a3 a4 a5 a6 a7 a8 a9 a10 a11 af al hZ5 hZ6 hbY hZb HZ
  obtain ⟨t0, t1, t2, t3, t4, t5, t6, t7, t8, t9, t10, tf, tl⟩ := row11 HY5.out
  obtain ⟨a0, a1, a2, a3, a4, a5, a6, a7, a8, a9, a10, a11, af, al⟩ := row12 HY6.out
  obtain ⟨u0, u1, u2, u3, u4, u5, u6, u7, u8, u9, u10, u11, uf, ul⟩ := row12 (H.out.below HYb.out).blk
  obtain ⟨x1, x2, x3, x4, x5⟩ : Rg := X.st
  go_wp2
  have hresl : Tryz.f10.results = #[.cell 6 41] := by kernel_rfl
  refine bodyPost_ret (v := anV { refS 0 with st := X.st } nilS nilS) ?_ rfl ?_
  · simp only [results, hresl]
    go_simp
    simp [refS, rg0]
  · exact rpost_plain H.out (set12_below HYb.out (Nat.le_succ _) _ _ _ _ _ _ _ _ _ _ _ _) rfl rfl

set_option maxRecDepth 100000 in
set_option maxHeartbeats 1600000 in
theorem rdo_poll {base : Nat} {w : World} {lab : Nat → Option Lb} {m : RMem} {X : Rb} (h : IsRef base w lab m X) (hg : RGood X) {task : Nat} (hk : task < X.tasks) (c : Cl) (sv : Value) (A' : Option Addr) (wl cA' : Nat) (hwl : wl = c.words.length) (hs : Rd w sv 1 c.set.length (c.set.map (Value.int .i64))) (hsn : c.set.length ≤ 100) (hwn : wl ≤ 100) (hrw : Rd w (.slice A' wl cA') 1 wl (u64V c.words)) (hc : callS c = 0)
    (h3 : (c.kind == 3) = false) (h5 : (c.kind == 5) = true) :
    Calls Tryz.prog 10 #[.pointer (some ⟨m.bb, 0, none⟩), .int .i64 task, clV c sv (.slice A' wl cA')] w fun e w' => RPost base w lab m (pollR X task) e w' := by
  obtain ⟨P, hP⟩ : ∃ P, P = pollR X task := ⟨_, rfl⟩
  have HC := hide (fun (w' : World) (hb : Below w.heap.size w w') => rpoll_any (h.below hb) hg hk)
  rw [← hP] at HC ⊢
  clear hP
  obtain ⟨kd, tp, sb, cp, rk, so, md, fl, fr, set, ws⟩ := c
  simp only at hwl hs hsn hc h3 h5 ⊢
  obtain ⟨t0, t1, t2, t3, t4, t5, t6, t7, t8, t9, t10, t11, tf, tl⟩ := row12 h.blk
  obtain ⟨T, hT⟩ : ∃ T, T = X.tasks := ⟨_, rfl⟩
  have hk' := hk
  rw [← hT] at t0 hk'
  have hT63 : T ≤ 9223372036854775807 := by have := hg.push.tasks; omega
  have HCH := hide (fun (w' : World) (hb : Below w.heap.size w w') => check17_any ⟨kd, tp, sb, cp, rk, so, md, fl, fr, set, ws⟩ sv A' set.length wl cA' w' rfl hsn hwl hwn (hs.below hb))
  have HCC := hide hc
  have H := hide h
  have HG := hide hg
  have HT := hide hT
  have Hwl := hide hwl
  have Hs := hide hs
  have HrW := hide hrw
  clear h hg hT hc hwl hs hrw t1 t2 t3 t4 t5 t6 t7 t8 t9 t10 t11 tf
  go_enter Tryz.func10, Tryz.ntmps10
  go_wp2_with fail
  obtain ⟨Z, hZ⟩ : ∃ Z, Z = (w.alloc (clO ⟨kd, tp, sb, cp, rk, so, md, fl, fr, set, ws⟩ sv (.slice A' wl cA'))).alloc anZ := ⟨_, rfl⟩
  have hZb : Below w.heap.size w Z := by rw [hZ]; exact below_new2 w _ _
  have hZ5 : Z.heap[w.heap.size]? = some (clO ⟨kd, tp, sb, cp, rk, so, md, fl, fr, set, ws⟩ sv (.slice A' wl cA')) := by rw [hZ]; exact (heap_two w _ _).1
  have hZ6 : Z.heap[w.heap.size + 1]? = some anZ := by rw [hZ]; exact (heap_two w _ _).2
  rw [← hZ]
  have HZ := hide hZ
  clear hZ
  obtain ⟨t0, t1, t2, t3, t4, t5, t6, t7, t8, t9, t10, tf, tl⟩ := row11 hZ5
  obtain ⟨a0, a1, a2, a3, a4, a5, a6, a7, a8, a9, a10, a11, af, al⟩ := row12 hZ6
  refine (HCH.out Z hZb).mono ?_
  rintro e Y ⟨he, hbY⟩
  rw [HCC.out] at he
  subst he
  have HYb := hide (hZb.trans (hbY.mono hZb.size))
  have HY5 := hide ((hbY.block _ tl).trans hZ5)
  have HY6 := hide ((hbY.block _ al).trans hZ6)
  have HZs := hide (show w.heap.size + 1 < Y.heap.size from Nat.lt_of_lt_of_le al hbY.size)
  clear t0 t1 t2 t3 t4 t5 t6 t7 t8 t9 t10 tf tl a0 a1 a2 a3 a4 a5 a6 a7 a8 a9 a10 a11 af al hZ5 hZ6 hbY hZb HZ
  obtain ⟨t0, t1, t2, t3, t4, t5, t6, t7, t8, t9, t10, tf, tl⟩ := row11 HY5.out
  obtain ⟨a0, a1, a2, a3, a4, a5, a6, a7, a8, a9, a10, a11, af, al⟩ := row12 HY6.out
  go_wp2_with fail
  refine (HC.out _ HYb.out).mono ?_
  rintro e w4 ⟨m', lab', gv, wv', rfl, hIs, ⟨hbb, htv⟩, hTu, hgv, hwv, hat⟩
  obtain ⟨A1, k1, rfl, -⟩ := hgv.shape
  obtain ⟨A2, k2, rfl, -⟩ := hwv.shape
  have hlg : lab (w.heap.size + 1) = none := H.out.fresh (by omega)
  have hT6 := (hTu.block _ (block_lt HY6.out) hlg).trans HY6.out
  have HIs := hide hIs
  have HTu := hide hTu
  have Hgv := hide hgv
  have Hwv := hide hwv
  have Hmm := hide (show m'.bb = m.bb ∧ m'.tv = m.tv from ⟨hbb, htv⟩)
  have Hat := hide hat
  have HY6b := hide (block_lt HY6.out)
  clear hIs hbb htv hTu hgv hwv hat a0 a1 a2 a3 a4 a5 a6 a7 a8 a9 a10 a11 af al t0 t1 t2 t3 t4 t5 t6 t7 t8 t9 t10 tf tl
  obtain ⟨e0, e1, e2, e3, e4, e5, e6, e7, e8, e9, e10, e11, ef, el⟩ := row12 hT6
  clear hT6
  go_wp2
  have hresl : Tryz.f10.results = #[.cell 6 41] := by kernel_rfl
  refine bodyPost_ret (v := anV P.2 (.slice A1 P.2.gens.length k1) (.slice A2 P.2.words.length k2)) ?_ rfl ?_
  · simp only [results, hresl]
    go_simp
  · obtain ⟨s1, s2, s3, s4⟩ := set12_same w4 (w.heap.size + 1) (.int .i64 P.2.code) (.int .i64 P.2.sub) (.int .u64 P.2.gen) (.int .i64 P.2.count) (.int .u64 P.2.lost) (.int .i64 P.2.st.mode) (.int .i64 P.2.st.source) (.bool P.2.st.hold) (.int .i64 P.2.st.flags) (.int .u64 P.2.st.epoch) (.slice A1 P.2.gens.length k1) (.slice A2 P.2.words.length k2)
    exact rpost_up H.out HYb.out (Nat.le_succ _) HY6b.out HTu.out HIs.out Hmm.out.1 Hmm.out.2 Hgv.out Hwv.out Hat.out s1 s2 s3 s4 (fun i hi => set12_other hi _ _ _ _ _ _ _ _ _ _ _ _)

set_option maxRecDepth 100000 in
set_option maxHeartbeats 1600000 in
theorem rdo_top {base : Nat} {w : World} {lab : Nat → Option Lb} {m : RMem} {X : Rb} (h : IsRef base w lab m X) (hg : RGood X) {task : Nat} (hk : task < X.tasks) (c : Cl) (sv : Value) (A' : Option Addr) (wl cA' : Nat) (hwl : wl = c.words.length) (hs : Rd w sv 1 c.set.length (c.set.map (Value.int .i64))) (hsn : c.set.length ≤ 100) (hwn : wl ≤ 100) (hrw : Rd w (.slice A' wl cA') 1 wl (u64V c.words)) (hc : callS c = 0)
    (h3 : (c.kind == 3) = false) (h5 : (c.kind == 5) = false) (h6 : (c.kind == 6) = false) (h7 : (c.kind == 7) = false) (h8 : (c.kind == 8) = false) (h9 : (c.kind == 9) = false) :
    Calls Tryz.prog 10 #[.pointer (some ⟨m.bb, 0, none⟩), .int .i64 task, clV c sv (.slice A' wl cA')] w fun e w' => RPost base w lab m (topicsR X task c) e w' := by
  obtain ⟨P, hP⟩ : ∃ P, P = topicsR X task c := ⟨_, rfl⟩
  have HC := hide (fun (w' : World) (hb : Below w.heap.size w w') => rtop_any (h.below hb) hg hk c sv (.slice A' wl cA') hc (by omega) (by rw [hwl] at hrw ⊢; exact hrw.below hb))
  rw [← hP] at HC ⊢
  clear hP
  obtain ⟨kd, tp, sb, cp, rk, so, md, fl, fr, set, ws⟩ := c
  simp only at hwl hs hsn hc h3 h5 h6 h7 h8 h9 HC ⊢
  obtain ⟨t0, t1, t2, t3, t4, t5, t6, t7, t8, t9, t10, t11, tf, tl⟩ := row12 h.blk
  obtain ⟨T, hT⟩ : ∃ T, T = X.tasks := ⟨_, rfl⟩
  have hk' := hk
  rw [← hT] at t0 hk'
  have hT63 : T ≤ 9223372036854775807 := by have := hg.push.tasks; omega
  have HCH := hide (fun (w' : World) (hb : Below w.heap.size w w') => check17_any ⟨kd, tp, sb, cp, rk, so, md, fl, fr, set, ws⟩ sv A' set.length wl cA' w' rfl hsn hwl hwn (hs.below hb))
  have HCC := hide hc
  have H := hide h
  have HG := hide hg
  have HT := hide hT
  have Hwl := hide hwl
  have Hs := hide hs
  have HrW := hide hrw
  clear h hg hT hc hwl hs hrw t1 t2 t3 t4 t5 t6 t7 t8 t9 t10 t11 tf
  go_enter Tryz.func10, Tryz.ntmps10
  go_wp2_with fail
  obtain ⟨Z, hZ⟩ : ∃ Z, Z = (w.alloc (clO ⟨kd, tp, sb, cp, rk, so, md, fl, fr, set, ws⟩ sv (.slice A' wl cA'))).alloc anZ := ⟨_, rfl⟩
  have hZb : Below w.heap.size w Z := by rw [hZ]; exact below_new2 w _ _
  have hZ5 : Z.heap[w.heap.size]? = some (clO ⟨kd, tp, sb, cp, rk, so, md, fl, fr, set, ws⟩ sv (.slice A' wl cA')) := by rw [hZ]; exact (heap_two w _ _).1
  have hZ6 : Z.heap[w.heap.size + 1]? = some anZ := by rw [hZ]; exact (heap_two w _ _).2
  rw [← hZ]
  have HZ := hide hZ
  clear hZ
  obtain ⟨t0, t1, t2, t3, t4, t5, t6, t7, t8, t9, t10, tf, tl⟩ := row11 hZ5
  obtain ⟨a0, a1, a2, a3, a4, a5, a6, a7, a8, a9, a10, a11, af, al⟩ := row12 hZ6
  refine (HCH.out Z hZb).mono ?_
  rintro e Y ⟨he, hbY⟩
  rw [HCC.out] at he
  subst he
  have HYb := hide (hZb.trans (hbY.mono hZb.size))
  have HY5 := hide ((hbY.block _ tl).trans hZ5)
  have HY6 := hide ((hbY.block _ al).trans hZ6)
  have HZs := hide (show w.heap.size + 1 < Y.heap.size from Nat.lt_of_lt_of_le al hbY.size)
  clear t0 t1 t2 t3 t4 t5 t6 t7 t8 t9 t10 tf tl a0 a1 a2 a3 a4 a5 a6 a7 a8 a9 a10 a11 af al hZ5 hZ6 hbY hZb HZ
  obtain ⟨t0, t1, t2, t3, t4, t5, t6, t7, t8, t9, t10, tf, tl⟩ := row11 HY5.out
  obtain ⟨a0, a1, a2, a3, a4, a5, a6, a7, a8, a9, a10, a11, af, al⟩ := row12 HY6.out
  go_wp2_with fail
  refine (HC.out _ HYb.out).mono ?_
  rintro e w4 ⟨m', lab', gv, wv', rfl, hIs, ⟨hbb, htv⟩, hTu, hgv, hwv, hat⟩
  obtain ⟨A1, k1, rfl, -⟩ := hgv.shape
  obtain ⟨A2, k2, rfl, -⟩ := hwv.shape
  have hlg : lab (w.heap.size + 1) = none := H.out.fresh (by omega)
  have hT6 := (hTu.block _ (block_lt HY6.out) hlg).trans HY6.out
  have HIs := hide hIs
  have HTu := hide hTu
  have Hgv := hide hgv
  have Hwv := hide hwv
  have Hmm := hide (show m'.bb = m.bb ∧ m'.tv = m.tv from ⟨hbb, htv⟩)
  have Hat := hide hat
  have HY6b := hide (block_lt HY6.out)
  clear hIs hbb htv hTu hgv hwv hat a0 a1 a2 a3 a4 a5 a6 a7 a8 a9 a10 a11 af al t0 t1 t2 t3 t4 t5 t6 t7 t8 t9 t10 tf tl
  obtain ⟨e0, e1, e2, e3, e4, e5, e6, e7, e8, e9, e10, e11, ef, el⟩ := row12 hT6
  clear hT6
  go_wp2
  have hresl : Tryz.f10.results = #[.cell 6 41] := by kernel_rfl
  refine bodyPost_ret (v := anV P.2 (.slice A1 P.2.gens.length k1) (.slice A2 P.2.words.length k2)) ?_ rfl ?_
  · simp only [results, hresl]
    go_simp
  · obtain ⟨s1, s2, s3, s4⟩ := set12_same w4 (w.heap.size + 1) (.int .i64 P.2.code) (.int .i64 P.2.sub) (.int .u64 P.2.gen) (.int .i64 P.2.count) (.int .u64 P.2.lost) (.int .i64 P.2.st.mode) (.int .i64 P.2.st.source) (.bool P.2.st.hold) (.int .i64 P.2.st.flags) (.int .u64 P.2.st.epoch) (.slice A1 P.2.gens.length k1) (.slice A2 P.2.words.length k2)
    exact rpost_up H.out HYb.out (Nat.le_succ _) HY6b.out HTu.out HIs.out Hmm.out.1 Hmm.out.2 Hgv.out Hwv.out Hat.out s1 s2 s3 s4 (fun i hi => set12_other hi _ _ _ _ _ _ _ _ _ _ _ _)
end Go.Proofs.YtclgmikdjcjjdaaGreatDoor
