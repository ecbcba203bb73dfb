/-
  The walk of the reference's topics. Conditions: the document's blackboard in memory.
-/
import Derived.Test.YtclgmikdjcjjdaaGreatDoorBRefPb
import Derived.Test.YtclgmikdjcjjdaaGreatDoorBDo
namespace Go.Proofs.YtclgmikdjcjjdaaGreatDoor
open Go.RowKit

/-- What holds of the document's blackboard. -/
structure RGood (X : Rb) : Prop where
  push : Pushable X
  recs : ∀ t, t < X.tp.length → 1 ≤ (X.al t).length ∧ (X.al t).length ≤ 1000000
  widths : ∀ t, t < X.tp.length → 1 ≤ wordsR X t
  depths : ∀ t, t < X.tp.length → 2 ≤ depthR X t ∧ depthR X t ≤ 16
  subs : ∀ k, ∀ r ∈ X.subs k, r.topic < X.tp.length ∧ r.rank ≤ 255 ∧ r.got ≤ 1000000 ∧ ∀ g ∈ r.queue, g < (X.al r.topic).length

def topicsR (X : Rb) (task : Nat) (c : Cl) : Rb × An :=
  if (decide (0 ≤ c.topic) && decide (c.topic < X.tp.length)) = false then (X, refS 14) else
  if c.kind = 0 then (if X.mine task c.topic.toNat = true then (X, refS 15) else (X.setMine task c.topic.toNat, refS 0)) else
  if c.kind = 1 then pubR X task c.topic.toNat c.words else
  if c.kind = 4 then subR X task c.topic.toNat c else
  (X, { refS 0 with gen := (X.al c.topic.toNat).length - 1, words := (X.al c.topic.toNat).getD ((X.al c.topic.toNat).length - 1) [] })

theorem IsRef.mineFrozen {base : Nat} {w : World} {lab : Nat → Option Lb} {m : RMem} {X : Rb} (h : IsRef base w lab m X) {k b o n c : Nat} (hk : k < X.tasks) (hn : 0 < X.tp.length) (hv : m.mineT k = .slice (some ⟨b, o, none⟩) n c) : ∀ i, w.frozen? ⟨b, i, none⟩ = false := by
  have hS : refR m X (.mineT k) = some ⟨false, 4, 1, m.mineT k, X.tp.length, (List.range X.tp.length).map fun t => .bool (X.mine k t)⟩ := by simp [refR, hk]
  obtain ⟨h1, h2⟩ := h.rows.row _ _ hS
  unfold RowAt at h1
  rw [if_neg (by simp)] at h1
  rcases h1.2 with ⟨-, h0⟩ | ⟨g, cap, cur, hv', hb, hg, n1, n2, n3, n4⟩
  · simp only at h0; omega
  · simp only [hv] at hv'
    cases hv'
    exact frozen_of hg


set_option maxRecDepth 100000 in
set_option maxHeartbeats 1600000 in
theorem rtop_no {base : Nat} {w : World} {lab : Nat → Option Lb} {m : RMem} {X : Rb} (h : IsRef base w lab m X) (task : Nat) (c : Cl) (sv wv : Value) (hin : (decide (0 ≤ c.topic) && decide (c.topic < X.tp.length)) = false) :
    Calls Tryz.prog 41 #[.pointer (some ⟨m.bb, 0, none⟩), .int .i64 task, clV c sv wv] w fun e w' => RPost base w lab m (topicsR X task c) e w' := by
  unfold topicsR
  rw [if_pos hin]
  obtain ⟨kd, tp, sb, cp, rk, so, md, fl, fr, set, ws⟩ := c
  have H := hide h
  have HIN := hide hin
  clear h hin
  go_enter Tryz.func41, Tryz.ntmps41
  go_wp2_with fail
  obtain ⟨Z, hZ⟩ : ∃ Z, Z = (w.alloc (clO ⟨kd, tp, sb, cp, rk, so, md, fl, fr, set, ws⟩ sv wv)).alloc anZ := ⟨_, rfl⟩
  have hZb : Below w.heap.size w Z := by rw [hZ]; exact below_new2 w _ _
  have hZ5 : Z.heap[w.heap.size]? = some (clO ⟨kd, tp, sb, cp, rk, so, md, fl, fr, set, ws⟩ sv wv) := by rw [hZ]; exact (heap_two w _ _).1
  have hZ6 : Z.heap[w.heap.size + 1]? = some anZ := by rw [hZ]; exact (heap_two w _ _).2
  rw [← hZ]
  have HZ := hide hZ
  clear hZ
  obtain ⟨t0, t1, t2, t3, t4, t5, t6, t7, t8, t9, t10, tf, tl⟩ := row11 hZ5
  obtain ⟨a0, a1, a2, a3, a4, a5, a6, a7, a8, a9, a10, a11, af, al⟩ := row12 hZ6
  refine (ris_any (H.out.below hZb) _).mono ?_
  rintro e Y ⟨he, hbY⟩
  rw [HIN.out] at he
  subst he
  have HYb := hide (hZb.trans (hbY.mono hZb.size))
  have HY5 := hide ((hbY.block _ tl).trans hZ5)
  have HY6 := hide ((hbY.block _ al).trans hZ6)
  have HZs := hide (show w.heap.size + 1 < Y.heap.size from Nat.lt_of_lt_of_le al hbY.size)
  clear t0 t1 t2 t3 t4 t5 t6 t7 t8 t9 t10 tf tl a0 a1 a2 a3 a4 a5 a6 a7 a8 a9 a10 a11 af al hZ5 hZ6 hbY hZb HZ
  obtain ⟨t0, t1, t2, t3, t4, t5, t6, t7, t8, t9, t10, tf, tl⟩ := row11 HY5.out
  obtain ⟨a0, a1, a2, a3, a4, a5, a6, a7, a8, a9, a10, a11, af, al⟩ := row12 HY6.out
  go_wp2
  have hresl : Tryz.f41.results = #[.cell 6 41] := by kernel_rfl
  refine bodyPost_ret (v := anV (refS 14) nilS nilS) ?_ rfl ?_
  · simp only [results, hresl]
    go_simp
    simp [refS, rg0]
  · exact rpost_plain H.out (set12_below HYb.out (Nat.le_succ _) _ _ _ _ _ _ _ _ _ _ _ _) rfl rfl

set_option maxRecDepth 100000 in
set_option maxHeartbeats 1600000 in
theorem rtop_adv {base : Nat} {w : World} {lab : Nat → Option Lb} {m : RMem} {X : Rb} (h : IsRef base w lab m X) {task t : Nat} (hk : task < X.tasks) (ht : t < X.tp.length) (c : Cl) (hct : c.topic = t) (sv wv : Value) (hk0 : (c.kind == 0) = true) :
    Calls Tryz.prog 41 #[.pointer (some ⟨m.bb, 0, none⟩), .int .i64 task, clV c sv wv] w fun e w' => RPost base w lab m (if X.mine task t = true then (X, refS 15) else (X.setMine task t, refS 0)) e w' := by
  obtain ⟨kd, tp, sb, cp, rk, so, md, fl, fr, set, ws⟩ := c
  simp only at hct hk0
  subst hct
  have hin : (decide (0 ≤ (t : Int)) && decide ((t : Int) < X.tp.length)) = true := by simp; omega
  obtain ⟨t0, t1, t2, t3, t4, t5, t6, t7, t8, t9, t10, t11, tf, tl⟩ := row12 h.blk
  obtain ⟨N, hN⟩ : ∃ N, N = X.tp.length := ⟨_, rfl⟩
  have ht' := ht
  rw [← hN] at ht'
  obtain ⟨b5, o5, c5, hv5, h5a, h5b, h5l, h5c⟩ := h.rdMine.open_ (by omega)
  have q5 := h5c _ _ (range_at hk m.mineT)
  obtain ⟨b8, o8, c8, hv8, h8a, h8b, h8l, h8c⟩ := (h.rdMineT hk).open_ (by omega)
  have q8 := h8c t (.bool (X.mine task t)) (by simp [ht])
  rw [hv8] at q5
  rw [hv5] at t5
  obtain ⟨T, hT⟩ : ∃ T, T = X.tasks := ⟨_, rfl⟩
  have hk' := hk
  rw [← hT] at t5 hk' h5a
  rw [← hN] at q5 h8a
  have hN63 : N ≤ 9223372036854775807 := by unfold maxLen at h8b; omega
  have hT63 : T ≤ 9223372036854775807 := by unfold maxLen at h5b; omega
  obtain ⟨mn, hmn⟩ : ∃ x, x = X.mine task t := ⟨_, rfl⟩
  rw [← hmn] at q8 ⊢
  have hbl := block_lt h.blk
  have HF := hide (fun (w' : World) (hb : Below w.heap.size w w') => show w'.cell? ⟨m.bb, 5, none⟩ = some (.slice (some ⟨b5, o5, none⟩) T c5) ∧ w'.cell? ⟨b5, o5 + task, none⟩ = some (.slice (some ⟨b8, o8, none⟩) N c8) ∧ w'.cell? ⟨b8, o8 + t, none⟩ = some (.bool mn) ∧ m.bb < w'.heap.size ∧ b5 < w'.heap.size ∧ b8 < w'.heap.size from
    ⟨(hb.cell (p := ⟨m.bb, 5, none⟩) hbl).trans t5, (hb.cell (p := ⟨b5, o5 + task, none⟩) h5l).trans q5, (hb.cell (p := ⟨b8, o8 + t, none⟩) h8l).trans q8, Nat.lt_of_lt_of_le hbl hb.size, Nat.lt_of_lt_of_le h5l hb.size, Nat.lt_of_lt_of_le h8l hb.size⟩)
  have hl8 : b8 < w.heap.size := h8l
  have H := hide h
  have HIN := hide hin
  have HN := hide hN
  have Hv8 := hide hv8
  clear h hin hN hT hv5 hv8 h5c h8c hmn t0 t1 t2 t3 t4 t5 t6 t7 t8 t9 t10 t11 tf tl q5 q8 hbl h5l h8l
  cases mn with
  | true =>
    rw [if_pos rfl]
    go_enter Tryz.func41, Tryz.ntmps41
    go_wp2_with fail
    obtain ⟨Z, hZ⟩ : ∃ Z, Z = (w.alloc (clO ⟨kd, t, sb, cp, rk, so, md, fl, fr, set, ws⟩ sv wv)).alloc anZ := ⟨_, rfl⟩
    have hZb : Below w.heap.size w Z := by rw [hZ]; exact below_new2 w _ _
    have hZ5 : Z.heap[w.heap.size]? = some (clO ⟨kd, t, sb, cp, rk, so, md, fl, fr, set, ws⟩ sv wv) := by rw [hZ]; exact (heap_two w _ _).1
    have hZ6 : Z.heap[w.heap.size + 1]? = some anZ := by rw [hZ]; exact (heap_two w _ _).2
    rw [← hZ]
    have HZ := hide hZ
    clear hZ
    obtain ⟨t0, t1, t2, t3, t4, t5, t6, t7, t8, t9, t10, tf, tl⟩ := row11 hZ5
    obtain ⟨a0, a1, a2, a3, a4, a5, a6, a7, a8, a9, a10, a11, af, al⟩ := row12 hZ6
    refine (ris_any (H.out.below hZb) _).mono ?_
    rintro e Y ⟨he, hbY⟩
    rw [HIN.out] at he
    subst he
    have HYb := hide (hZb.trans (hbY.mono hZb.size))
    have HY5 := hide ((hbY.block _ tl).trans hZ5)
    have HY6 := hide ((hbY.block _ al).trans hZ6)
    have HZs := hide (show w.heap.size + 1 < Y.heap.size from Nat.lt_of_lt_of_le al hbY.size)
    clear t0 t1 t2 t3 t4 t5 t6 t7 t8 t9 t10 tf tl a0 a1 a2 a3 a4 a5 a6 a7 a8 a9 a10 a11 af al hZ5 hZ6 hbY hZb HZ
    obtain ⟨t0, t1, t2, t3, t4, t5, t6, t7, t8, t9, t10, tf, tl⟩ := row11 HY5.out
    obtain ⟨a0, a1, a2, a3, a4, a5, a6, a7, a8, a9, a10, a11, af, al⟩ := row12 HY6.out
    obtain ⟨f1, f2, f3, f4, f5, f6⟩ := HF.out _ HYb.out
    go_wp2_with fail
    go_quiet (fail)
    go_wp2
    have hresl : Tryz.f41.results = #[.cell 6 41] := by kernel_rfl
    refine bodyPost_ret (v := anV (refS 15) nilS nilS) ?_ rfl ?_
    · simp only [results, hresl]
      go_simp
      simp [refS, rg0]
    · exact rpost_plain H.out (set12_below (below_drewN HYb.out _) (Nat.le_succ _) _ _ _ _ _ _ _ _ _ _ _ _) rfl rfl
  | false =>
    rw [if_neg (by simp)]
    go_enter Tryz.func41, Tryz.ntmps41
    go_wp2_with fail
    obtain ⟨Z, hZ⟩ : ∃ Z, Z = (w.alloc (clO ⟨kd, t, sb, cp, rk, so, md, fl, fr, set, ws⟩ sv wv)).alloc anZ := ⟨_, rfl⟩
    have hZb : Below w.heap.size w Z := by rw [hZ]; exact below_new2 w _ _
    have hZ5 : Z.heap[w.heap.size]? = some (clO ⟨kd, t, sb, cp, rk, so, md, fl, fr, set, ws⟩ sv wv) := by rw [hZ]; exact (heap_two w _ _).1
    have hZ6 : Z.heap[w.heap.size + 1]? = some anZ := by rw [hZ]; exact (heap_two w _ _).2
    rw [← hZ]
    have HZ := hide hZ
    clear hZ
    obtain ⟨t0, t1, t2, t3, t4, t5, t6, t7, t8, t9, t10, tf, tl⟩ := row11 hZ5
    obtain ⟨a0, a1, a2, a3, a4, a5, a6, a7, a8, a9, a10, a11, af, al⟩ := row12 hZ6
    refine (ris_any (H.out.below hZb) _).mono ?_
    rintro e Y ⟨he, hbY⟩
    rw [HIN.out] at he
    subst he
    have HYb := hide (hZb.trans (hbY.mono hZb.size))
    have HY5 := hide ((hbY.block _ tl).trans hZ5)
    have HY6 := hide ((hbY.block _ al).trans hZ6)
    have HZs := hide (show w.heap.size + 1 < Y.heap.size from Nat.lt_of_lt_of_le al hbY.size)
    clear t0 t1 t2 t3 t4 t5 t6 t7 t8 t9 t10 tf tl a0 a1 a2 a3 a4 a5 a6 a7 a8 a9 a10 a11 af al hZ5 hZ6 hbY hZb HZ
    obtain ⟨t0, t1, t2, t3, t4, t5, t6, t7, t8, t9, t10, tf, tl⟩ := row11 HY5.out
    obtain ⟨a0, a1, a2, a3, a4, a5, a6, a7, a8, a9, a10, a11, af, al⟩ := row12 HY6.out
    obtain ⟨f1, f2, f3, f4, f5, f6⟩ := HF.out _ HYb.out
    go_wp2_with fail
    go_quiet (fail)
    generalize hV : Y.drewN _ = V
    have hVB : Below Y.heap.size Y V := by rw [← hV]; exact below_drewN (Below.refl _ Y) _
    have HVb := hide (HYb.out.trans (hVB.mono HYb.out.size))
    clear hV f1 f2 f3 f4 f5 f6
    obtain ⟨f1, f2, f3, f4, f5, f6⟩ := HF.out _ HVb.out
    have HV6 := hide ((hVB.block _ al).trans HY6.out)
    have HV5 := hide ((hVB.block _ tl).trans HY5.out)
    obtain ⟨t0, t1, t2, t3, t4, t5, t6, t7, t8, t9, t10, tf, tl⟩ := row11 HV5.out
    have hIV := H.out.below HVb.out
    have hfr := hIV.mineFrozen hk (by omega) Hv8.out
    have HIV := hide hIV
    clear hVB hIV
    go_wp2_with fail
    go_region
    obtain ⟨h1, h2⟩ := HIV.out.setMine (t := t) hk Hv8.out
    have hW6 : (V.setCell ⟨b8, o8 + t, none⟩ (.bool true)).drew.heap[w.heap.size + 1]? = some anZ := (Below.heap_setCell V ⟨b8, o8 + t, none⟩ _ _ (show w.heap.size + 1 ≠ b8 by omega)).trans HV6.out
    have hD := (Below.refl (V.setCell ⟨b8, o8 + t, none⟩ (.bool true)).heap.size (V.setCell ⟨b8, o8 + t, none⟩ (.bool true))).drew
    have h3 := h2.trans (RTurns.of_below lab hD)
    have h4 := h1.below hD
    clear h1 h2 hD
    generalize (V.setCell ⟨b8, o8 + t, none⟩ (.bool true)).drew = W at *
    obtain ⟨a0, a1, a2, a3, a4, a5, a6, a7, a8, a9, a10, a11, af, al⟩ := row12 hW6
    have H3 := hide h3
    have H4 := hide h4
    clear h3 h4 hW6
    go_wp2
    have hresl : Tryz.f41.results = #[.cell 6 41] := by kernel_rfl
    refine bodyPost_ret (v := anV (refS 0) nilS nilS) ?_ rfl ?_
    · simp only [results, hresl]
      go_simp
      simp [refS, rg0]
    · obtain ⟨s1, s2, s3, s4⟩ := set12_same W (w.heap.size + 1) (.int .i64 0) (.int .i64 0) (.int .u64 0) (.int .i64 0) (.int .u64 0) (.int .i64 0) (.int .i64 0) (.bool false) (.int .i64 0) (.int .u64 0) nilS nilS
      exact rpost_up (a := refS 0) H.out HVb.out (Nat.le_succ _) (block_lt HV6.out) H3.out H4.out rfl rfl (rd_nil W) (rd_nil W) (fun q hq => by simp [Value.ownBlock] at hq) s1 s2 s3 s4 (fun i hi => set12_other hi _ _ _ _ _ _ _ _ _ _ _ _)

/-- What is new has no owner. -/
theorem IsRef.fresh {base : Nat} {w : World} {lab : Nat → Option Lb} {m : RMem} {X : Rb} (h : IsRef base w lab m X) {g : Nat} (hg : w.heap.size ≤ g) : lab g = none := by
  cases hl : lab g with
  | none => rfl
  | some L => have := (h.rows.lt g L hl).2; omega

set_option maxRecDepth 100000 in
set_option maxHeartbeats 1600000 in
theorem rtop_pub {base : Nat} {w : World} {lab : Nat → Option Lb} {m : RMem} {X : Rb} (h : IsRef base w lab m X) (hg : RGood X) {task t : Nat} (hk : task < X.tasks) (ht : t < X.tp.length) (c : Cl) (hct : c.topic = t) (sv : Value) (A' : Option Addr) (cA' : Nat) (hwsb : c.words.length ≤ 100) (hrw : Rd w (.slice A' c.words.length cA') 1 c.words.length (u64V c.words)) (hk0 : (c.kind == 0) = false) (hk1 : (c.kind == 1) = true) :
    Calls Tryz.prog 41 #[.pointer (some ⟨m.bb, 0, none⟩), .int .i64 task, clV c sv (.slice A' c.words.length cA')] w fun e w' => RPost base w lab m (pubR X task t c.words) e w' := by
  obtain ⟨P, hP⟩ : ∃ P, P = pubR X task t c.words := ⟨_, rfl⟩
  have HC := hide (fun (w' : World) (hb : Below w.heap.size w w') => rpub_any (h.below hb) c sv A' c.words.length cA' hk hct ht rfl hwsb (hrw.below hb) (hg.widths t ht) (hg.recs t ht).2 hg.push)
  rw [← hP] at HC ⊢
  obtain ⟨kd, tp, sb, cp, rk, so, md, fl, fr, set, ws⟩ := c
  simp only at hct hk0 hk1 HC ⊢
  subst hct
  have hin : (decide (0 ≤ (t : Int)) && decide ((t : Int) < X.tp.length)) = true := by simp; omega
  have H := hide h
  have HIN := hide hin
  obtain ⟨wl, hwl⟩ : ∃ x, x = ws.length := ⟨_, rfl⟩
  rw [← hwl] at HC ⊢
  have Hwl := hide hwl
  clear h hg hin hrw hwsb hP hwl hk ht
  go_enter Tryz.func41, Tryz.ntmps41
  go_wp2_with fail
  obtain ⟨Z, hZ⟩ : ∃ Z, Z = (w.alloc (clO ⟨kd, t, sb, cp, rk, so, md, fl, fr, set, ws⟩ sv (.slice A' wl cA'))).alloc anZ := ⟨_, rfl⟩
  have hZb : Below w.heap.size w Z := by rw [hZ]; exact below_new2 w _ _
  have hZ5 : Z.heap[w.heap.size]? = some (clO ⟨kd, t, sb, cp, rk, so, md, fl, fr, set, ws⟩ sv (.slice A' wl cA')) := by rw [hZ]; exact (heap_two w _ _).1
  have hZ6 : Z.heap[w.heap.size + 1]? = some anZ := by rw [hZ]; exact (heap_two w _ _).2
  rw [← hZ]
  have HZ := hide hZ
  clear hZ
  obtain ⟨t0, t1, t2, t3, t4, t5, t6, t7, t8, t9, t10, tf, tl⟩ := row11 hZ5
  obtain ⟨a0, a1, a2, a3, a4, a5, a6, a7, a8, a9, a10, a11, af, al⟩ := row12 hZ6
  refine (ris_any (H.out.below hZb) _).mono ?_
  rintro e Y ⟨he, hbY⟩
  rw [HIN.out] at he
  subst he
  have HYb := hide (hZb.trans (hbY.mono hZb.size))
  have HY5 := hide ((hbY.block _ tl).trans hZ5)
  have HY6 := hide ((hbY.block _ al).trans hZ6)
  have HZs := hide (show w.heap.size + 1 < Y.heap.size from Nat.lt_of_lt_of_le al hbY.size)
  clear t0 t1 t2 t3 t4 t5 t6 t7 t8 t9 t10 tf tl a0 a1 a2 a3 a4 a5 a6 a7 a8 a9 a10 a11 af al hZ5 hZ6 hbY hZb HZ
  obtain ⟨t0, t1, t2, t3, t4, t5, t6, t7, t8, t9, t10, tf, tl⟩ := row11 HY5.out
  obtain ⟨a0, a1, a2, a3, a4, a5, a6, a7, a8, a9, a10, a11, af, al⟩ := row12 HY6.out
  go_wp2_with fail
  refine (HC.out _ HYb.out).mono ?_
  rintro e w4 ⟨m', lab', gv, wv', rfl, hIs, ⟨hbb, htv⟩, hTu, hgv, hwv, hat⟩
  obtain ⟨A1, k1, rfl, -⟩ := hgv.shape
  obtain ⟨A2, k2, rfl, -⟩ := hwv.shape
  have hlg : lab (w.heap.size + 1) = none := H.out.fresh (by omega)
  have hT6 := (hTu.block _ (block_lt HY6.out) hlg).trans HY6.out
  have HIs := hide hIs
  have HTu := hide hTu
  have Hgv := hide hgv
  have Hwv := hide hwv
  have Hmm := hide (show m'.bb = m.bb ∧ m'.tv = m.tv from ⟨hbb, htv⟩)
  have Hat := hide hat
  have HY6b := hide (block_lt HY6.out)
  clear hIs hbb htv hTu hgv hwv hat a0 a1 a2 a3 a4 a5 a6 a7 a8 a9 a10 a11 af al t0 t1 t2 t3 t4 t5 t6 t7 t8 t9 t10 tf tl
  obtain ⟨e0, e1, e2, e3, e4, e5, e6, e7, e8, e9, e10, e11, ef, el⟩ := row12 hT6
  clear hT6
  go_wp2
  have hresl : Tryz.f41.results = #[.cell 6 41] := by kernel_rfl
  refine bodyPost_ret (v := anV P.2 (.slice A1 P.2.gens.length k1) (.slice A2 P.2.words.length k2)) ?_ rfl ?_
  · simp only [results, hresl]
    go_simp
  · obtain ⟨s1, s2, s3, s4⟩ := set12_same w4 (w.heap.size + 1) (.int .i64 P.2.code) (.int .i64 P.2.sub) (.int .u64 P.2.gen) (.int .i64 P.2.count) (.int .u64 P.2.lost) (.int .i64 P.2.st.mode) (.int .i64 P.2.st.source) (.bool P.2.st.hold) (.int .i64 P.2.st.flags) (.int .u64 P.2.st.epoch) (.slice A1 P.2.gens.length k1) (.slice A2 P.2.words.length k2)
    exact rpost_up H.out HYb.out (Nat.le_succ _) HY6b.out HTu.out HIs.out Hmm.out.1 Hmm.out.2 Hgv.out Hwv.out Hat.out s1 s2 s3 s4 (fun i hi => set12_other hi _ _ _ _ _ _ _ _ _ _ _ _)

set_option maxRecDepth 100000 in
set_option maxHeartbeats 1600000 in
theorem rtop_sub {base : Nat} {w : World} {lab : Nat → Option Lb} {m : RMem} {X : Rb} (h : IsRef base w lab m X) (hg : RGood X) {task t : Nat} (hk : task < X.tasks) (ht : t < X.tp.length) (c : Cl) (hct : c.topic = t) (sv wv : Value) (hcap : 1 ≤ c.cap ∧ c.cap ≤ 15) (hrank : 0 ≤ c.rank ∧ c.rank ≤ 255) (hk0 : (c.kind == 0) = false) (hk1 : (c.kind == 1) = false) (hk4 : (c.kind == 4) = true) :
    Calls Tryz.prog 41 #[.pointer (some ⟨m.bb, 0, none⟩), .int .i64 task, clV c sv wv] w fun e w' => RPost base w lab m (subR X task t c) e w' := by
  obtain ⟨P, hP⟩ : ∃ P, P = subR X task t c := ⟨_, rfl⟩
  obtain ⟨G, hG⟩ : ∃ G, (X.al t).length = G + 1 := ⟨(X.al t).length - 1, by have := (hg.recs t ht).1; omega⟩
  have HC := hide (fun (w' : World) (hb : Below w.heap.size w w') => rsub_any (h.below hb) c sv wv hk hct ht (hg.depths t ht) hcap hrank hG (by have := (hg.recs t ht).2; omega))
  rw [← hP] at HC ⊢
  obtain ⟨kd, tp, sb, cp, rk, so, md, fl, fr, set, ws⟩ := c
  simp only at hct hk0 hk1 hk4 HC ⊢
  subst hct
  have hin : (decide (0 ≤ (t : Int)) && decide ((t : Int) < X.tp.length)) = true := by simp; omega
  have H := hide h
  have HIN := hide hin
  clear h hg hin hcap hrank hP hG hk ht
  go_enter Tryz.func41, Tryz.ntmps41
  go_wp2_with fail
  obtain ⟨Z, hZ⟩ : ∃ Z, Z = (w.alloc (clO ⟨kd, t, sb, cp, rk, so, md, fl, fr, set, ws⟩ sv wv)).alloc anZ := ⟨_, rfl⟩
  have hZb : Below w.heap.size w Z := by rw [hZ]; exact below_new2 w _ _
  have hZ5 : Z.heap[w.heap.size]? = some (clO ⟨kd, t, sb, cp, rk, so, md, fl, fr, set, ws⟩ sv wv) := by rw [hZ]; exact (heap_two w _ _).1
  have hZ6 : Z.heap[w.heap.size + 1]? = some anZ := by rw [hZ]; exact (heap_two w _ _).2
  rw [← hZ]
  have HZ := hide hZ
  clear hZ
  obtain ⟨t0, t1, t2, t3, t4, t5, t6, t7, t8, t9, t10, tf, tl⟩ := row11 hZ5
  obtain ⟨a0, a1, a2, a3, a4, a5, a6, a7, a8, a9, a10, a11, af, al⟩ := row12 hZ6
  refine (ris_any (H.out.below hZb) _).mono ?_
  rintro e Y ⟨he, hbY⟩
  rw [HIN.out] at he
  subst he
  have HYb := hide (hZb.trans (hbY.mono hZb.size))
  have HY5 := hide ((hbY.block _ tl).trans hZ5)
  have HY6 := hide ((hbY.block _ al).trans hZ6)
  have HZs := hide (show w.heap.size + 1 < Y.heap.size from Nat.lt_of_lt_of_le al hbY.size)
  clear t0 t1 t2 t3 t4 t5 t6 t7 t8 t9 t10 tf tl a0 a1 a2 a3 a4 a5 a6 a7 a8 a9 a10 a11 af al hZ5 hZ6 hbY hZb HZ
  obtain ⟨t0, t1, t2, t3, t4, t5, t6, t7, t8, t9, t10, tf, tl⟩ := row11 HY5.out
  obtain ⟨a0, a1, a2, a3, a4, a5, a6, a7, a8, a9, a10, a11, af, al⟩ := row12 HY6.out
  go_wp2_with fail
  refine (HC.out _ HYb.out).mono ?_
  rintro e w4 ⟨m', lab', gv, wv', rfl, hIs, ⟨hbb, htv⟩, hTu, hgv, hwv, hat⟩
  obtain ⟨A1, k1, rfl, -⟩ := hgv.shape
  obtain ⟨A2, k2, rfl, -⟩ := hwv.shape
  have hlg : lab (w.heap.size + 1) = none := H.out.fresh (by omega)
  have hT6 := (hTu.block _ (block_lt HY6.out) hlg).trans HY6.out
  have HIs := hide hIs
  have HTu := hide hTu
  have Hgv := hide hgv
  have Hwv := hide hwv
  have Hmm := hide (show m'.bb = m.bb ∧ m'.tv = m.tv from ⟨hbb, htv⟩)
  have Hat := hide hat
  have HY6b := hide (block_lt HY6.out)
  clear hIs hbb htv hTu hgv hwv hat a0 a1 a2 a3 a4 a5 a6 a7 a8 a9 a10 a11 af al t0 t1 t2 t3 t4 t5 t6 t7 t8 t9 t10 tf tl
  obtain ⟨e0, e1, e2, e3, e4, e5, e6, e7, e8, e9, e10, e11, ef, el⟩ := row12 hT6
  clear hT6
  go_wp2
  have hresl : Tryz.f41.results = #[.cell 6 41] := by kernel_rfl
  refine bodyPost_ret (v := anV P.2 (.slice A1 P.2.gens.length k1) (.slice A2 P.2.words.length k2)) ?_ rfl ?_
  · simp only [results, hresl]
    go_simp
  · obtain ⟨s1, s2, s3, s4⟩ := set12_same w4 (w.heap.size + 1) (.int .i64 P.2.code) (.int .i64 P.2.sub) (.int .u64 P.2.gen) (.int .i64 P.2.count) (.int .u64 P.2.lost) (.int .i64 P.2.st.mode) (.int .i64 P.2.st.source) (.bool P.2.st.hold) (.int .i64 P.2.st.flags) (.int .u64 P.2.st.epoch) (.slice A1 P.2.gens.length k1) (.slice A2 P.2.words.length k2)
    exact rpost_up H.out HYb.out (Nat.le_succ _) HY6b.out HTu.out HIs.out Hmm.out.1 Hmm.out.2 Hgv.out Hwv.out Hat.out s1 s2 s3 s4 (fun i hi => set12_other hi _ _ _ _ _ _ _ _ _ _ _ _)

set_option maxRecDepth 100000 in
set_option maxHeartbeats 1600000 in
theorem rtop_copy {base : Nat} {w : World} {lab : Nat → Option Lb} {m : RMem} {X : Rb} (h : IsRef base w lab m X) {task t G : Nat} (ht : t < X.tp.length) (c : Cl) (hct : c.topic = t) (sv wv : Value) (hG : (X.al t).length = G + 1) (hGb : G ≤ 1000000) (hk0 : (c.kind == 0) = false) (hk1 : (c.kind == 1) = false) (hk4 : (c.kind == 4) = false) :
    Calls Tryz.prog 41 #[.pointer (some ⟨m.bb, 0, none⟩), .int .i64 task, clV c sv wv] w fun e w' => RPost base w lab m (X, { refS 0 with gen := G, words := (X.al t).getD G [] }) e w' := by
  obtain ⟨kd, tp, sb, cp, rk, so, md, fl, fr, set, ws⟩ := c
  simp only at hct hk0 hk1 hk4 ⊢
  subst hct
  have hin : (decide (0 ≤ (t : Int)) && decide ((t : Int) < X.tp.length)) = true := by simp; omega
  obtain ⟨t0, t1, t2, t3, t4, t5, t6, t7, t8, t9, t10, t11, tf, tl⟩ := row12 h.blk
  obtain ⟨br, orr, cr, hvr, hra, hrb, hrl, hrc⟩ := h.rdRecs.open_ (by omega)
  have qr := hrc _ _ (range_at ht m.recT)
  obtain ⟨bt, ot, ct, hvt, hta, htb, htl, htc⟩ := (h.rdRec ht).open_ (by omega)
  have hGl : G < (X.al t).length := by omega
  have qt := htc _ _ (range_at hGl (m.word t))
  have hrdW := h.rdWord ht hGl
  obtain ⟨A9, c9, hv9, -⟩ := hrdW.shape
  rw [hvr] at t4
  rw [hvt] at qr
  rw [hv9] at qt hrdW
  have hrowW := (h.rows.row (.word t G) _ (by simp [refR, ht, hGl]; rfl)).2
  simp only [hv9] at hrowW
  rw [hG] at qr hta
  obtain ⟨n1, hn1⟩ : ∃ x, x = G + 1 := ⟨_, rfl⟩
  rw [← hn1] at qr hta
  have hGn : G < n1 := by omega
  have hn163 : n1 ≤ 9223372036854775807 := by omega
  clear hn1
  obtain ⟨N, hN⟩ : ∃ N, N = X.tp.length := ⟨_, rfl⟩
  have ht' := ht
  rw [← hN] at ht' t4 hra
  have hN63 : N ≤ 9223372036854775807 := by unfold maxLen at hrb; omega
  obtain ⟨ws9, hws9⟩ : ∃ x, x = (X.al t).getD G [] := ⟨_, rfl⟩
  rw [← hws9] at qt hrdW hrowW ⊢
  have hbl := block_lt h.blk
  have HF := hide (fun (w' : World) (hb : Below w.heap.size w w') => show w'.cell? ⟨m.bb, 4, none⟩ = some (.slice (some ⟨br, orr, none⟩) N cr) ∧ w'.cell? ⟨br, orr + t, none⟩ = some (.slice (some ⟨bt, ot, none⟩) n1 ct) ∧ w'.cell? ⟨bt, ot + G, none⟩ = some (.slice A9 ws9.length c9) ∧ m.bb < w'.heap.size ∧ br < w'.heap.size ∧ bt < w'.heap.size from
    ⟨(hb.cell (p := ⟨m.bb, 4, none⟩) hbl).trans t4, (hb.cell (p := ⟨br, orr + t, none⟩) hrl).trans qr, (hb.cell (p := ⟨bt, ot + G, none⟩) htl).trans qt, Nat.lt_of_lt_of_le hbl hb.size, Nat.lt_of_lt_of_le hrl hb.size, Nat.lt_of_lt_of_le htl hb.size⟩)
  have H := hide h
  have HIN := hide hin
  have HN := hide hN
  have HG := hide hG
  have HrdW := hide hrdW
  have HrowW := hide (fun q hq => show lab q ≠ none from fun e => by have := hrowW q hq; rw [e] at this; cases this)
  obtain ⟨wl, hwl⟩ : ∃ x, x = ws9.length := ⟨_, rfl⟩
  rw [← hwl] at HF HrdW HrowW
  have Hwl := hide hwl
  clear h hin hN hG hvr hvt hrc htc hrdW hv9 hrowW hws9 t0 t1 t2 t3 t4 t5 t6 t7 t8 t9 t10 t11 tf tl qr qt hbl hrl htl hGl hwl
  go_enter Tryz.func41, Tryz.ntmps41
  go_wp2_with fail
  obtain ⟨Z, hZ⟩ : ∃ Z, Z = (w.alloc (clO ⟨kd, t, sb, cp, rk, so, md, fl, fr, set, ws⟩ sv wv)).alloc anZ := ⟨_, rfl⟩
  have hZb : Below w.heap.size w Z := by rw [hZ]; exact below_new2 w _ _
  have hZ5 : Z.heap[w.heap.size]? = some (clO ⟨kd, t, sb, cp, rk, so, md, fl, fr, set, ws⟩ sv wv) := by rw [hZ]; exact (heap_two w _ _).1
  have hZ6 : Z.heap[w.heap.size + 1]? = some anZ := by rw [hZ]; exact (heap_two w _ _).2
  rw [← hZ]
  have HZ := hide hZ
  clear hZ
  obtain ⟨t0, t1, t2, t3, t4, t5, t6, t7, t8, t9, t10, tf, tl⟩ := row11 hZ5
  obtain ⟨a0, a1, a2, a3, a4, a5, a6, a7, a8, a9, a10, a11, af, al⟩ := row12 hZ6
  refine (ris_any (H.out.below hZb) _).mono ?_
  rintro e Y ⟨he, hbY⟩
  rw [HIN.out] at he
  subst he
  have HYb := hide (hZb.trans (hbY.mono hZb.size))
  have HY5 := hide ((hbY.block _ tl).trans hZ5)
  have HY6 := hide ((hbY.block _ al).trans hZ6)
  have HZs := hide (show w.heap.size + 1 < Y.heap.size from Nat.lt_of_lt_of_le al hbY.size)
  clear t0 t1 t2 t3 t4 t5 t6 t7 t8 t9 t10 tf tl a0 a1 a2 a3 a4 a5 a6 a7 a8 a9 a10 a11 af al hZ5 hZ6 hbY hZb HZ
  obtain ⟨t0, t1, t2, t3, t4, t5, t6, t7, t8, t9, t10, tf, tl⟩ := row11 HY5.out
  obtain ⟨a0, a1, a2, a3, a4, a5, a6, a7, a8, a9, a10, a11, af, al⟩ := row12 HY6.out
  obtain ⟨f1, f2, f3, f4, f5, f6⟩ := HF.out _ HYb.out
  go_wp2_with fail
  refine (rgen_any (H.out.below HYb.out) ht HG.out hGb).mono ?_
  rintro e V ⟨rfl, hbV⟩
  clear f1 f2 f3 f4 f5 f6
  have HVb := hide (HYb.out.trans (hbV.mono HYb.out.size))
  have HV6 := hide ((hbV.block _ al).trans HY6.out)
  have HV5 := hide ((hbV.block _ tl).trans HY5.out)
  clear a0 a1 a2 a3 a4 a5 a6 a7 a8 a9 a10 a11 af al t0 t1 t2 t3 t4 t5 t6 t7 t8 t9 t10 tf tl hbV
  obtain ⟨t0, t1, t2, t3, t4, t5, t6, t7, t8, t9, t10, tf, tl⟩ := row11 HV5.out
  obtain ⟨a0, a1, a2, a3, a4, a5, a6, a7, a8, a9, a10, a11, af, al⟩ := row12 HV6.out
  obtain ⟨f1, f2, f3, f4, f5, f6⟩ := HF.out _ HVb.out
  go_wp2_with fail
  refine wp_region_ext_tail 12 (by kernel_rfl) (by kernel_rfl) (fun _ _ d _ _ h => by cases d <;> exact h) ?_
  simp only [List.take_succ_cons, List.take_zero, List.drop_succ_cons, List.drop_zero]
  repeat (first
    | go_big_quiet_skip
    | (go_big_quiet_want
       first
         | (apply quiet_val
            · intro wq hq
              have hcq := hq.cells
              have hzq := hq.lift
              go_simp
              try go_bits
              first | done | with_reducible rfl
            (try simp only [Act.put, List.setIfInBounds_toArray, List.set_cons_zero, List.set_cons_succ])
            go_big_quiet_on)))
  refine wpQuiet_nil ?_
  intro U h3
  have hUB : Below V.heap.size V U := h3.below
  have HUb := hide (HVb.out.trans (hUB.mono HVb.out.size))
  have HU6 := hide ((hUB.block _ al).trans HV6.out)
  clear hUB h3 a0 a1 a2 a3 a4 a5 a6 a7 a8 a9 a10 a11 af al
  obtain ⟨a0, a1, a2, a3, a4, a5, a6, a7, a8, a9, a10, a11, af, al⟩ := row12 HU6.out
  go_wp2
  have hresl : Tryz.f41.results = #[.cell 6 41] := by kernel_rfl
  refine bodyPost_ret (v := anV { refS 0 with gen := G, words := ws9 } nilS (.slice A9 wl c9)) ?_ rfl ?_
  · simp only [results, hresl]
    go_simp
    simp [refS, rg0]
  · obtain ⟨s1, s2, s3, s4⟩ := set12_same U (w.heap.size + 1) (.int .i64 0) (.int .i64 0) (.int .u64 G) (.int .i64 0) (.int .u64 0) (.int .i64 0) (.int .i64 0) (.bool false) (.int .i64 0) (.int .u64 0) nilS (.slice A9 wl c9)
    have hW := HrdW.out.below HUb.out
    rw [Hwl.out] at hW
    exact rpost_up (a := { refS 0 with gen := G, words := ws9 }) H.out HUb.out (Nat.le_succ _) (block_lt HU6.out) (RTurns.of_below lab (Below.refl _ U)) (H.out.below HUb.out) rfl rfl (rd_nil U) (by rw [Hwl.out]; exact hW) (fun q hq => .inl (HrowW.out q (by simpa [Value.ownBlock] using hq))) s1 s2 s3 s4 (fun i hi => set12_other hi _ _ _ _ _ _ _ _ _ _ _ _)

theorem rtop_any {base : Nat} {w : World} {lab : Nat → Option Lb} {m : RMem} {X : Rb} (h : IsRef base w lab m X) (hg : RGood X) {task : Nat} (hk : task < X.tasks) (c : Cl) (sv wv : Value) (hc : callS c = 0) (hwsb : c.words.length ≤ 100) (hrw : Rd w wv 1 c.words.length (u64V c.words)) :
    Calls Tryz.prog 41 #[.pointer (some ⟨m.bb, 0, none⟩), .int .i64 task, clV c sv wv] w fun e w' => RPost base w lab m (topicsR X task c) e w' := by
  cases hin : (decide (0 ≤ c.topic) && decide (c.topic < X.tp.length)) with
  | false => exact rtop_no h task c sv wv hin
  | true =>
    obtain ⟨t, hct, ht⟩ : ∃ t : Nat, c.topic = t ∧ t < X.tp.length := ⟨c.topic.toNat, by simp at hin; omega, by simp at hin; omega⟩
    obtain ⟨A', cA', rfl, -⟩ := hrw.shape
    unfold topicsR
    rw [if_neg (by rw [hin]; simp), hct, Int.toNat_natCast]
    by_cases h0 : c.kind = 0
    · rw [if_pos h0]
      exact rtop_adv h hk ht c hct _ _ (by simp [h0])
    rw [if_neg h0]
    by_cases h1 : c.kind = 1
    · rw [if_pos h1]
      exact rtop_pub h hg hk ht c hct _ A' cA' hwsb hrw (by simpa using h0) (by simp [h1])
    rw [if_neg h1]
    by_cases h4 : c.kind = 4
    · rw [if_pos h4]
      obtain ⟨i1, i2⟩ := call_sub hc h4
      exact rtop_sub h hg hk ht c hct _ _ i1 i2 (by simpa using h0) (by simpa using h1) (by simp [h4])
    rw [if_neg h4]
    obtain ⟨G, hG⟩ : ∃ G, (X.al t).length = G + 1 := ⟨(X.al t).length - 1, by have := (hg.recs t ht).1; omega⟩
    have h9 := rtop_copy h (task := task) ht c hct sv (.slice A' c.words.length cA') hG (by have := (hg.recs t ht).2; omega) (by simpa using h0) (by simpa using h1) (by simpa using h4)
    rw [hG, Nat.add_sub_cancel]
    exact h9
end Go.Proofs.YtclgmikdjcjjdaaGreatDoor
