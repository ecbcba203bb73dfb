/-
  The walk of the blackboard's call Subscribe. Conditions: a blackboard in memory; a room and a rank that may be.
-/
import Derived.Test.YtpilfhjlfbjloaaGreatDoorBRow
import Derived.Deep.RegionLaw
import Derived.Deep.AppendLies
namespace Go.Proofs.YtpilfhjlfbjloaaGreatDoor
open Go.RowKit


theorem info_sub : (Tryz.prog.info? 137).map (fun i => (i.zero, i.size, i.bytes)) = some (some (.agg #[.int .i64 0, .int .i64 0, .int .u64 0, .int .i64 0, .int .u64 0, .int .u64 0]), 6, 48) := by kernel_rfl
theorem und_subs : Tryz.prog.underlying 131 = some (.slice 137) := by kernel_rfl

theorem news6 (w : World) (c0 c1 c2 c3 c4 c5 : Value) (t : TypeId) : ∀ (j : Nat) (u : Value), [c0, c1, c2, c3, c4, c5][j]? = some u → (w.alloc (.cells #[c0, c1, c2, c3, c4, c5] t)).cell? ((⟨w.heap.size, 0, none⟩ : Addr).add j) = some u := by
  intro j u h
  have hn := heap_alloc_new w (.cells #[c0, c1, c2, c3, c4, c5] t)
  generalize w.alloc (.cells #[c0, c1, c2, c3, c4, c5] t) = X at hn ⊢
  match j, h with
  | 0, h => simp at h; subst h; simp [Addr.add, World.cell?, hn]
  | 1, h => simp at h; subst h; simp [Addr.add, World.cell?, hn]
  | 2, h => simp at h; subst h; simp [Addr.add, World.cell?, hn]
  | 3, h => simp at h; subst h; simp [Addr.add, World.cell?, hn]
  | 4, h => simp at h; subst h; simp [Addr.add, World.cell?, hn]
  | 5, h => simp at h; subst h; simp [Addr.add, World.cell?, hn]
  | j + 6, h => simp at h

theorem flatSb_snoc (l : List Sb) (s : Sb) : flatSb (l ++ [s]) = flatSb l ++ sbL s := by simp [flatSb]

/-- An append, as a step of a region that draws; where the new slice lies. -/
theorem step_append_lies {P : Program} (w : World) {ops : Array Oper} {o : Oper} {a : Act} {K : Act → World → Prop} {Q : Exit → Act → World → Prop} {E : Prop} (hgd : o.guard = none) (s x : Operand) (t : TypeId)
    (ho : o.op = .call { callee := .builtin .append, args := #[s, x], argTypes := #[t, t] })
    (base : Nat) (e : TypeId) (i : TypeInfo) (z : Value) (size bytes : Nat) (ht : P.underlying t = some (.slice e)) (hi : P.info? e = some i) (hz : i.zero = some z)
    (hsize : i.size = size) (hby : i.bytes = bytes) (hzs : z.cells.size = size) (hsz : 0 < size)
    (v : Value) (n : Nat) (xs : List Value) (hs : a.eval s = v) (hown : w.ownsRow base e size v n xs)
    (ad : Addr) (m c : Nat) (news : List Value) (hx : a.eval x = .slice (some ad) m c) (hl : news.length = m * size) (hnews : ∀ j u, news[j]? = some u → w.cell? (ad.add j) = some u) (h1 : ∀ u ∈ news, u.oneCell' = true)
    (hm : 0 < m) (h63 : n + m ≤ maxLen) (hbytes : (n + m) * bytes ≤ 140737488355328) (hbase : base ≤ w.heap.size) (H : Nat) (hH : w.heap.size = H)
    (h : ∀ g cap w', w'.ownsRow base e size (.slice (some ⟨g, 0, none⟩) (n + m) cap) (n + m) (xs ++ news) → w.grownBy w' v.ownBlock → (v.ownBlock = some g ∨ g = H) → g < w'.heap.size → K (a.put o.dst (.slice (some ⟨g, 0, none⟩) (n + m) cap)) w') :
    if Region.wanted o (yielded ops a.tmps) = true then Oper.wp P o a w K Q else E := by
  rw [if_pos (by simp [Region.wanted, hgd])]
  exact wp_append_lies (w := w) s x t ho base e i z size bytes ht hi hz hsize hby hzs hsz v n xs hs hown ad m c news hx hl hnews h1 hm h63 hbytes hbase H hH h

set_option maxRecDepth 100000 in
set_option maxHeartbeats 1600000 in
theorem sub_do {k : Nat} {m : Mem} {S : Bd} (task : Nat) (c : Cl) (sv wv : Value) (w : World) (h : IsBd k w m S) (hk : k + 1 ≤ 1000000) (htask : task < S.tasks) (hcap : 1 ≤ c.cap ∧ c.cap ≤ 15) (hrank : 0 ≤ c.rank ∧ c.rank ≤ 255) :
    Calls Tryz.prog 34 #[.pointer (some ⟨m.bb, 0, none⟩), .int .i64 task, clV c sv wv] w fun e w' => DoPost (k + 1) w m (subS S task c) e w' := by
  have hB := h.blk
  have H := hide (h.mono (Nat.le_succ k) hk)
  have h5 : w.cell? ⟨m.bb, 5, none⟩ = some (.slice (some ⟨m.gb, 0, none⟩) S.gens.length m.gc) := (row13 hB).2.2.2.2.2.1
  have HH := hide (fun (w' : World) (hb : Below w.heap.size w w') => has_any m.bb S.gens.length m.gc m.gb c.topic w' ((hb.cell (p := ⟨m.bb, 5, none⟩) (block_lt hB)).trans h5))
  have hhas : S.has c.topic = (decide (0 ≤ c.topic) && decide (c.topic < S.gens.length)) := rfl
  rw [← hhas] at HH
  have HM := hide h.lt
  cases hh : S.has c.topic with
  | false =>
    rw [hh] at HH
    have hcp : subS S task c = (S, refS 14) := by rw [subS, if_pos hh]
    rw [hcp]
    clear h hcp hh hhas hB h5 hcap hrank
    go_enter Tryz.func34, Tryz.ntmps34
    go_wp2_with fail
    refine (HH.out _ (below_new2 w _ _)).mono ?_
    rintro e w' ⟨rfl, rfl⟩
    go_wp2_with fail
    refine (refused_any 14 _).mono ?_
    rintro e w2 ⟨rfl, hb2⟩
    obtain ⟨hc2, hf2, hz2⟩ := bcell hb2
    go_wp2
    have hresl : Tryz.f34.results = #[.cell 6 44] := by kernel_rfl
    refine bodyPost_ret (v := anR 14) ?_ rfl ?_
    · simp only [results, hresl]
      go_simp
    · exact post_plain H.out (set12_below ((below_new2 w _ _).trans (hb2.mono (by simp; omega))) (Nat.le_succ _) _ _ _ _ _ _ _ _ _ _ _ _) rfl rfl
  | true =>
    rw [hh] at HH
    obtain ⟨t, ht, htl⟩ : ∃ t : Nat, c.topic = t ∧ t < S.gens.length := ⟨c.topic.toNat, by simp [Bd.has] at hh; omega, by simp [Bd.has] at hh; omega⟩
    obtain ⟨A, n, cA, l, hv, hl, hld, hn, hn8, hrow, hcell, hok⟩ := h.row htask
    obtain ⟨tb, to, tc, p, htv, htro, htbl, hp, hpw, hpd, hpb, hcw, hcd⟩ := h.topic htl
    have h1c : w.cell? ⟨m.bb, 1, none⟩ = some (.slice (some ⟨tb, to, none⟩) S.gens.length tc) := by rw [← htv]; exact (row13 hB).2.1
    have h7c : w.cell? ⟨m.bb, 7, none⟩ = some (.slice (some ⟨m.sb, 0, none⟩) S.tasks S.tasks) := (row13 hB).2.2.2.2.2.2.2.1
    have hG := h.gen_cell htl
    have hgk := h.gen_le t
    have hkk := h.kk
    have hbbl := block_lt hB
    have hsbl := block_lt h.subs
    have hgbl := block_lt_of_cell hG
    have hone : subS S task c = if S.depth t - 1 < c.cap then (S, refS 10) else if 8 ≤ l.length then (S, refS 16)
        else ({ S with subs := S.subs.set task (l ++ [⟨t, c.rank.toNat, ⟨S.gen t + 1, c.cap.toNat, 0, 0⟩⟩]) }, { refS 0 with sub := l.length, gen := S.gen t }) := by
      rw [subS, if_neg (by rw [hh]; simp), ht, Int.toNat_natCast, hld]
    rw [hone, hpd]
    obtain ⟨cp', hcp'⟩ : ∃ x : Nat, c.cap = x := ⟨c.cap.toNat, by omega⟩
    obtain ⟨rk', hrk'⟩ : ∃ x : Nat, c.rank = x := ⟨c.rank.toNat, by omega⟩
    obtain ⟨D, hD⟩ : ∃ x : Nat, p.2.2 = x := ⟨p.2.2.toNat, by omega⟩
    rw [hD] at hcd hpb ⊢
    obtain ⟨kd, tp, sb, cp, rk, so, md, fl, fr, set, ws⟩ := c
    simp only at ht HH hcp' hrk' hcap hrank
    subst ht hcp' hrk'
    simp only [Int.toNat_natCast]
    have hwD : IntKind.i64.wrap ((D : Int) - 1) = (D : Int) - 1 := by rw [IntKind.wrap_i64]; omega
    obtain ⟨N, hN⟩ : ∃ N, N = S.gens.length := ⟨_, rfl⟩
    obtain ⟨T, hT⟩ : ∃ T, T = S.tasks := ⟨_, rfl⟩
    have HN := hide hN
    have HT := hide hT
    rw [← hN] at h1c h5 htl
    rw [← hT] at h7c htask
    by_cases hdc : (D : Int) - 1 < (cp' : Int)
    · rw [if_pos hdc]
      clear h hh hhas hB h5 hone hN hT hgk hkk hp hpw hpd hpb htv hv hl hld hn hrow hok hcell hG h7c hcw hn8
      go_enter Tryz.func34, Tryz.ntmps34
      go_wp2_with fail
      refine (HH.out _ (below_new2 w _ _)).mono ?_
      rintro e w' ⟨rfl, rfl⟩
      go_wp2_with fail
      obtain ⟨Z, hZ⟩ : ∃ Z, Z = (w.alloc (clO ⟨kd, t, sb, cp', rk', so, md, fl, fr, set, ws⟩ sv wv)).alloc anZ := ⟨_, rfl⟩
      have hZb : Below w.heap.size w Z := by rw [hZ]; exact below_new2 w _ _
      have hZ5 : Z.heap[w.heap.size]? = some (clO ⟨kd, t, sb, cp', rk', so, md, fl, fr, set, ws⟩ sv wv) := by rw [hZ]; exact (heap_two w _ _).1
      have hZ6 : Z.heap[w.heap.size + 1]? = some anZ := by rw [hZ]; exact (heap_two w _ _).2
      rw [← hZ]
      have HZ := hide hZ
      clear hZ
      obtain ⟨t0, t1, t2, t3, t4, t5, t6, t7, t8, t9, t10, tf, tl⟩ := row11 hZ5
      obtain ⟨a0, a1, a2, a3, a4, a5, a6, a7, a8, a9, a10, a11, af, al⟩ := row12 hZ6
      have q1 := (hZb.cell (p := ⟨m.bb, 1, none⟩) hbbl).trans h1c
      have qd := (hZb.cell (p := ⟨tb, to + t * 3 + 2, none⟩) htbl).trans hcd
      have hqb : m.bb < Z.heap.size := Nat.lt_of_lt_of_le hbbl hZb.size
      have hqt : tb < Z.heap.size := Nat.lt_of_lt_of_le htbl hZb.size
      go_quiet (fail)
      go_wp2_with fail
      refine (refused_any 10 _).mono ?_
      rintro e w2 ⟨rfl, hb2⟩
      obtain ⟨b0, b1, b2, b3, b4, b5, b6, b7, b8, b9, b10, b11, bf, bl⟩ := row12 ((hb2.block (w.heap.size + 1) al).trans hZ6)
      go_wp2
      have hresl : Tryz.f34.results = #[.cell 6 44] := by kernel_rfl
      refine bodyPost_ret (v := anR 10) ?_ rfl ?_
      · simp only [results, hresl]
        go_simp
      · have hbz2 : Below w.heap.size w w2 := below2 hZb ⟨hb2.os, hb2.tape, hb2.output, hb2.size, hb2.block⟩
        exact post_plain H.out (set12_below hbz2 (Nat.le_succ _) _ _ _ _ _ _ _ _ _ _ _ _) rfl rfl
    · rw [if_neg hdc]
      by_cases h8 : 8 ≤ l.length
      · rw [if_pos h8]
        have h8n : 8 ≤ n := by omega
        clear h hh hhas hB h5 hone hN hT hgk hkk hp hpw hpd hpb htv hv hl hld hn hrow hok hG hcw h8
        go_enter Tryz.func34, Tryz.ntmps34
        go_wp2_with fail
        refine (HH.out _ (below_new2 w _ _)).mono ?_
        rintro e w' ⟨rfl, rfl⟩
        go_wp2_with fail
        obtain ⟨Z, hZ⟩ : ∃ Z, Z = (w.alloc (clO ⟨kd, t, sb, cp', rk', so, md, fl, fr, set, ws⟩ sv wv)).alloc anZ := ⟨_, rfl⟩
        have hZb : Below w.heap.size w Z := by rw [hZ]; exact below_new2 w _ _
        have hZ5 : Z.heap[w.heap.size]? = some (clO ⟨kd, t, sb, cp', rk', so, md, fl, fr, set, ws⟩ sv wv) := by rw [hZ]; exact (heap_two w _ _).1
        have hZ6 : Z.heap[w.heap.size + 1]? = some anZ := by rw [hZ]; exact (heap_two w _ _).2
        rw [← hZ]
        have HZ := hide hZ
        clear hZ
        obtain ⟨t0, t1, t2, t3, t4, t5, t6, t7, t8, t9, t10, tf, tl⟩ := row11 hZ5
        obtain ⟨a0, a1, a2, a3, a4, a5, a6, a7, a8, a9, a10, a11, af, al⟩ := row12 hZ6
        have q1 := (hZb.cell (p := ⟨m.bb, 1, none⟩) hbbl).trans h1c
        have qd := (hZb.cell (p := ⟨tb, to + t * 3 + 2, none⟩) htbl).trans hcd
        have hqb : m.bb < Z.heap.size := Nat.lt_of_lt_of_le hbbl hZb.size
        have hqt : tb < Z.heap.size := Nat.lt_of_lt_of_le htbl hZb.size
        go_quiet (fail)
        generalize hV : Z.drewN _ = V
        have hVB : Below Z.heap.size Z V := by rw [← hV]; exact below_drewN (Below.refl _ Z) _
        clear hV
        have v7 := (hVB.cell (p := ⟨m.bb, 7, none⟩) hqb).trans ((hZb.cell (p := ⟨m.bb, 7, none⟩) hbbl).trans h7c)
        have vr := (hVB.cell (p := ⟨m.sb, task, none⟩) (Nat.lt_of_lt_of_le hsbl hZb.size)).trans ((hZb.cell (p := ⟨m.sb, task, none⟩) hsbl).trans hcell)
        have vb : m.bb < V.heap.size := Nat.lt_of_lt_of_le hqb hVB.size
        have vs : m.sb < V.heap.size := Nat.lt_of_lt_of_le (Nat.lt_of_lt_of_le hsbl hZb.size) hVB.size
        go_wp2_with fail
        refine (refused_any 16 _).mono ?_
        rintro e w2 ⟨rfl, hb2⟩
        obtain ⟨b0, b1, b2, b3, b4, b5, b6, b7, b8, b9, b10, b11, bf, bl⟩ := row12 ((hb2.block (w.heap.size + 1) (Nat.lt_of_lt_of_le al hVB.size)).trans ((hVB.block _ al).trans hZ6))
        go_wp2
        have hresl : Tryz.f34.results = #[.cell 6 44] := by kernel_rfl
        refine bodyPost_ret (v := anR 16) ?_ rfl ?_
        · simp only [results, hresl]
          go_simp
        · have hbz2 : Below w.heap.size w w2 := below2 (hZb.trans (hVB.mono hZb.size)) ⟨hb2.os, hb2.tape, hb2.output, hb2.size, hb2.block⟩
          exact post_plain H.out (set12_below hbz2 (Nat.le_succ _) _ _ _ _ _ _ _ _ _ _ _ _) rfl rfl
      · rw [if_neg h8]
        have h8n : n < 8 := by omega
        have h8i : (n : Int) < 8 := by omega
        obtain ⟨G, hGe⟩ : ∃ G, G = S.gen t := ⟨_, rfl⟩
        obtain ⟨G1, hG1⟩ : ∃ x, x = G + 1 := ⟨_, rfl⟩
        rw [← hGe] at hG hgk
        rw [← hGe, ← hG1]
        have HNew := hide (fun w => qnew_any G cp' w (by omega) (by omega) (by omega))
        rw [← hG1] at HNew
        have hsubs := h.subs
        have HI := hide h
        have Hv := hide hv
        have Hn := hide hn
        have Hl := hide hl
        have Hrow := hide hrow
        have HGe := hide hGe
        have HG1 := hide hG1
        have Hhtl := hide (show t < S.tp.length by rw [← h.inv.glen, ← hN]; exact htl)
        have Hgk := hide hgk
        rw [← hn]
        have Hsubs := hide hsubs
        clear h hh hhas hB h5 hone hN hT hgk hkk hp hpw hpd hpb htv hv hl hld hn hrow hok hcw h8 hGe hG1 hsubs
        go_enter Tryz.func34, Tryz.ntmps34
        go_wp2_with fail
        refine (HH.out _ (below_new2 w _ _)).mono ?_
        rintro e w' ⟨rfl, rfl⟩
        go_wp2_with fail
        obtain ⟨Z, hZ⟩ : ∃ Z, Z = (w.alloc (clO ⟨kd, t, sb, cp', rk', so, md, fl, fr, set, ws⟩ sv wv)).alloc anZ := ⟨_, rfl⟩
        have hZb : Below w.heap.size w Z := by rw [hZ]; exact below_new2 w _ _
        have hZ5 : Z.heap[w.heap.size]? = some (clO ⟨kd, t, sb, cp', rk', so, md, fl, fr, set, ws⟩ sv wv) := by rw [hZ]; exact (heap_two w _ _).1
        have hZ6 : Z.heap[w.heap.size + 1]? = some anZ := by rw [hZ]; exact (heap_two w _ _).2
        rw [← hZ]
        have HZ := hide hZ
        clear hZ
        obtain ⟨t0, t1, t2, t3, t4, t5, t6, t7, t8, t9, t10, tf, tl⟩ := row11 hZ5
        obtain ⟨a0, a1, a2, a3, a4, a5, a6, a7, a8, a9, a10, a11, af, al⟩ := row12 hZ6
        have q1 := (hZb.cell (p := ⟨m.bb, 1, none⟩) hbbl).trans h1c
        have qd := (hZb.cell (p := ⟨tb, to + t * 3 + 2, none⟩) htbl).trans hcd
        have hqb : m.bb < Z.heap.size := Nat.lt_of_lt_of_le hbbl hZb.size
        have hqt : tb < Z.heap.size := Nat.lt_of_lt_of_le htbl hZb.size
        go_quiet (fail)
        generalize hV : Z.drewN _ = V
        have hVB : Below Z.heap.size Z V := by rw [← hV]; exact below_drewN (Below.refl _ Z) _
        clear hV
        have vb : m.bb < V.heap.size := Nat.lt_of_lt_of_le hqb hVB.size
        have hqs := Nat.lt_of_lt_of_le hsbl hZb.size
        have hqg := Nat.lt_of_lt_of_le hgbl hZb.size
        have vs : m.sb < V.heap.size := Nat.lt_of_lt_of_le hqs hVB.size
        have vg : m.gb < V.heap.size := Nat.lt_of_lt_of_le hqg hVB.size
        have vl : w.heap.size < V.heap.size := Nat.lt_of_lt_of_le tl hVB.size
        have v7 := (hVB.cell (p := ⟨m.bb, 7, none⟩) hqb).trans ((hZb.cell (p := ⟨m.bb, 7, none⟩) hbbl).trans h7c)
        have v5 := (hVB.cell (p := ⟨m.bb, 5, none⟩) hqb).trans ((hZb.cell (p := ⟨m.bb, 5, none⟩) hbbl).trans (show w.cell? ⟨m.bb, 5, none⟩ = some (.slice (some ⟨m.gb, 0, none⟩) N m.gc) by rw [HN.out]; exact (row13 HI.out.blk).2.2.2.2.2.1))
        have vr := (hVB.cell (p := ⟨m.sb, task, none⟩) hqs).trans ((hZb.cell (p := ⟨m.sb, task, none⟩) hsbl).trans hcell)
        have vgc := (hVB.cell (p := ⟨m.gb, t, none⟩) hqg).trans ((hZb.cell (p := ⟨m.gb, t, none⟩) hgbl).trans hG)
        have w1 := (hVB.cell (p := ⟨w.heap.size, 1, none⟩) tl).trans t1
        have w3 := (hVB.cell (p := ⟨w.heap.size, 3, none⟩) tl).trans t3
        have w4 := (hVB.cell (p := ⟨w.heap.size, 4, none⟩) tl).trans t4
        clear q1 qd t0 t1 t2 t3 t4 t5 t6 t7 t8 t9 t10 a0 a1 a2 a3 a4 a5 a6 a7 a8 a9 a10 a11 h7c hcell hG h1c hcd
        go_wp2_with fail
        go_quiet (fail)
        generalize hU : V.drewN _ = U
        have hUB : Below V.heap.size V U := by rw [← hU]; exact below_drewN (Below.refl _ V) _
        clear hU
        have u3 := (hUB.cell (p := ⟨w.heap.size, 3, none⟩) vl).trans w3
        have ul : w.heap.size < U.heap.size := Nat.lt_of_lt_of_le vl hUB.size
        have hUw : Below w.heap.size w U := (hZb.trans (hVB.mono hZb.size)).trans (hUB.mono (Nat.le_trans hZb.size hVB.size))
        go_wp2_with fail
        refine (HNew.out _).mono ?_
        rintro e w2 ⟨rfl, hb2⟩
        have hVw2 : Below V.heap.size V w2 := hUB.trans (hb2.mono hUB.size)
        go_wp2_with fail
        have hY8 := heap_alloc_new w2 (.cells #[.int .u64 G1, .int .i64 cp', .int .u64 0, .int .u64 0] 133)
        have hYV : Below V.heap.size V (w2.alloc (.cells #[.int .u64 G1, .int .i64 cp', .int .u64 0, .int .u64 0] 133)) := hVw2.trans ((below_new w2 _).mono hVw2.size)
        have hYs : w2.heap.size < (w2.alloc (.cells #[.int .u64 G1, .int .i64 cp', .int .u64 0, .int .u64 0] 133)).heap.size := by simp
        have hY8v : V.heap.size ≤ w2.heap.size := hVw2.size
        generalize w2.alloc (.cells #[.int .u64 G1, .int .i64 cp', .int .u64 0, .int .u64 0] 133) = Y at *
        generalize w2.heap.size = g8 at *
        have hYw : Below w.heap.size w Y := (hZb.trans (hVB.mono hZb.size)).trans (hYV.mono (Nat.le_trans hZb.size hVB.size))
        have y7 := (hYV.cell (p := ⟨m.bb, 7, none⟩) vb).trans v7
        have yr := (hYV.cell (p := ⟨m.sb, task, none⟩) vs).trans vr
        have y1 := (hYV.cell (p := ⟨w.heap.size, 1, none⟩) vl).trans w1
        have y4 := (hYV.cell (p := ⟨w.heap.size, 4, none⟩) vl).trans w4
        obtain ⟨c0, c1, c2, c3, cf, cl⟩ := row4 hY8
        have yb : m.bb < Y.heap.size := Nat.lt_of_lt_of_le vb hYV.size
        have ys : m.sb < Y.heap.size := Nat.lt_of_lt_of_le vs hYV.size
        have yl : w.heap.size < Y.heap.size := Nat.lt_of_lt_of_le vl hYV.size
        have hrowY := Hrow.out.kept (row := none) (show w.grownBy Y none from ⟨hYw.os, hYw.tape, hYw.output, hYw.size, fun i hi _ => hYw.block i hi⟩) (by cases (Value.slice A n cA).ownBlock <;> simp)
        obtain ⟨i0, hi, hz0, hz1, hz2⟩ := info_parts info_sub
        have hsne : ∀ q, (Value.slice A n cA).ownBlock = some q → q ≠ m.sb ∧ q ≠ m.bb ∧ q < w.heap.size := fun q hq => ⟨(HI.out.rown _ (List.mem_of_getElem? Hv.out) q hq).2.2.2.2, (HI.out.rown _ (List.mem_of_getElem? Hv.out) q hq).1, (Hrow.out.lt q hq).2⟩
        have hsubY : Y.heap[m.sb]? = some (.cells m.rows.toArray 131) := (hYw.block _ hsbl).trans Hsubs.out
        have hg8w : w.heap.size < g8 := by omega
        have HrowY := hide hrowY
        have HYw := hide hYw
        have HsubY := hide hsubY
        have HYZ := hide (hVB.trans (hYV.mono hVB.size))
        have Hsne := hide hsne
        clear v5 v7 vr vgc w1 w3 w4 u3 ul hUB hUw hb2 hVw2 hVB hYV hY8 hrowY hsubY hYw hsne hY8v vb vs vg vl
        have hsb1 : m.bb ≠ m.sb := by
          have hnd := HI.out.nd
          simp only [List.nodup_cons, List.mem_cons, List.not_mem_nil, or_false, not_or] at hnd
          exact hnd.1.2.2.2
        have HK : ∀ w' : World, (∀ i, i ≠ m.sb → (Value.slice A n cA).ownBlock ≠ some i → i < Y.heap.size → w'.heap[i]? = Y.heap[i]?) → w'.cell? ⟨m.bb, 7, none⟩ = some (.slice (some ⟨m.sb, 0, none⟩) T T) ∧ w'.cell? ⟨w.heap.size, 1, none⟩ = some (.int .i64 t) ∧ w'.cell? ⟨w.heap.size, 4, none⟩ = some (.int .i64 rk') ∧ w'.cell? ⟨g8, 0, none⟩ = some (.int .u64 G1) ∧ w'.cell? ⟨g8, 1, none⟩ = some (.int .i64 cp') ∧ w'.cell? ⟨g8, 2, none⟩ = some (.int .u64 0) ∧ w'.cell? ⟨g8, 3, none⟩ = some (.int .u64 0) := fun w' hw' =>
          have hb' := hw' m.bb hsb1 (fun e => (Hsne.out _ e).2.1 rfl) yb
          have hl' := hw' w.heap.size (by omega) (fun e => by have := (Hsne.out _ e).2.2; omega) yl
          have hg' := hw' g8 (by omega) (fun e => by have := (Hsne.out _ e).2.2; omega) hYs
          ⟨(World.cell?_of_block (a := ⟨m.bb, 7, none⟩) hb').trans y7, (World.cell?_of_block (a := ⟨w.heap.size, 1, none⟩) hl').trans y1, (World.cell?_of_block (a := ⟨w.heap.size, 4, none⟩) hl').trans y4,
            (World.cell?_of_block (a := ⟨g8, 0, none⟩) hg').trans c0, (World.cell?_of_block (a := ⟨g8, 1, none⟩) hg').trans c1, (World.cell?_of_block (a := ⟨g8, 2, none⟩) hg').trans c2, (World.cell?_of_block (a := ⟨g8, 3, none⟩) hg').trans c3⟩
        have hK1 := HK Y.drew (fun _ _ _ _ => rfl)
        have hK2 := HK (Y.drew.alloc (.cells #[.int .i64 t, .int .i64 rk', .int .u64 G1, .int .i64 cp', .int .u64 0, .int .u64 0] 137)) (fun i _ _ hi => (below_new Y.drew _).block i hi)
        have hK3 := HK (Y.alloc (.cells #[.int .i64 t, .int .i64 rk', .int .u64 G1, .int .i64 cp', .int .u64 0, .int .u64 0] 137)).drew (fun i _ _ hi => (below_new Y _).block i hi)
        have hK6 := HK (Y.drew.alloc (.cells #[.int .i64 0, .int .i64 0, .int .u64 0, .int .i64 0, .int .u64 0, .int .u64 0] 137)) (fun i _ _ hi => (below_new Y.drew _).block i hi)
        have yrd : Y.drew.cell? ⟨m.sb, task, none⟩ = some (.slice A n cA) := yr
        have yra : (Y.drew.alloc (.cells #[.int .i64 t, .int .i64 rk', .int .u64 G1, .int .i64 cp', .int .u64 0, .int .u64 0] 137)).cell? ⟨m.sb, task, none⟩ = some (.slice A n cA) := (World.cell?_alloc_lt Y.drew _ ⟨m.sb, task, none⟩ ys).trans yr
        refine wp_region_noPanic ?_
        refine wp_region_held_drew (S := (fun w' => w'.cell? ⟨m.bb, 7, none⟩ = some (.slice (some ⟨m.sb, 0, none⟩) T T) ∧ w'.cell? ⟨w.heap.size, 1, none⟩ = some (.int .i64 t) ∧ w'.cell? ⟨w.heap.size, 4, none⟩ = some (.int .i64 rk') ∧ w'.cell? ⟨g8, 0, none⟩ = some (.int .u64 G1) ∧ w'.cell? ⟨g8, 1, none⟩ = some (.int .i64 cp') ∧ w'.cell? ⟨g8, 2, none⟩ = some (.int .u64 0) ∧ w'.cell? ⟨g8, 3, none⟩ = some (.int .u64 0))) (by kernel_rfl) (by (try dsimp only); (first | with_reducible assumption | with_reducible exact hK1 | with_reducible exact hK2 | with_reducible exact hK3 | with_reducible exact hK6)) (fun hHeld0 => ?_)
        refine held_take (i := 0) (v := ?_) (by rfl) (by kernel_rfl) (by kernel_rfl) (by kernel_rfl) (fun _ _ _ h => h) (Or.inl ⟨by rfl, ?_⟩) hHeld0 ?_
        rotate_left
        · (intro w hSw; (try dsimp only at hSw); go_simp; try with_reducible rfl)
        try simp only [Act.put, List.setIfInBounds_toArray, List.set_cons_zero, List.set_cons_succ]
        refine held_take (i := 1) (v := ?_) (by rfl) (by kernel_rfl) (by kernel_rfl) (by kernel_rfl) (fun _ _ _ h => h) (Or.inl ⟨by rfl, ?_⟩) hHeld0 ?_
        rotate_left
        · (intro w hSw; (try dsimp only at hSw); go_simp; try with_reducible rfl)
        try simp only [Act.put, List.setIfInBounds_toArray, List.set_cons_zero, List.set_cons_succ]
        refine held_take (i := 2) (v := ?_) (by rfl) (by kernel_rfl) (by kernel_rfl) (by kernel_rfl) (fun _ _ _ h => h) (Or.inl ⟨by rfl, ?_⟩) hHeld0 ?_
        rotate_left
        · (intro w hSw; (try dsimp only at hSw); go_simp; try with_reducible rfl)
        try simp only [Act.put, List.setIfInBounds_toArray, List.set_cons_zero, List.set_cons_succ]
        refine held_take (i := 3) (v := ?_) (by rfl) (by kernel_rfl) (by kernel_rfl) (by kernel_rfl) (fun _ _ _ h => h) (Or.inl ⟨by rfl, ?_⟩) hHeld0 ?_
        rotate_left
        · (intro w hSw; (try dsimp only at hSw); go_simp; try with_reducible rfl)
        try simp only [Act.put, List.setIfInBounds_toArray, List.set_cons_zero, List.set_cons_succ]
        refine held_take (i := 4) (v := ?_) (by rfl) (by kernel_rfl) (by kernel_rfl) (by kernel_rfl) (fun _ _ _ h => h) (Or.inl ⟨by rfl, ?_⟩) hHeld0 ?_
        rotate_left
        · (intro w hSw; (try dsimp only at hSw); go_simp; try with_reducible rfl)
        try simp only [Act.put, List.setIfInBounds_toArray, List.set_cons_zero, List.set_cons_succ]
        refine held_take (i := 5) (v := ?_) (by rfl) (by kernel_rfl) (by kernel_rfl) (by kernel_rfl) (fun _ _ _ h => h) (Or.inl ⟨by rfl, ?_⟩) hHeld0 ?_
        rotate_left
        · (intro w hSw; (try dsimp only at hSw); go_simp; try with_reducible rfl)
        try simp only [Act.put, List.setIfInBounds_toArray, List.set_cons_zero, List.set_cons_succ]
        refine held_take (i := 6) (v := ?_) (by rfl) (by kernel_rfl) (by kernel_rfl) (by kernel_rfl) (fun _ _ _ h => h) (Or.inl ⟨by rfl, ?_⟩) hHeld0 ?_
        rotate_left
        · (intro w hSw; (try dsimp only at hSw); go_simp; try with_reducible rfl)
        try simp only [Act.put, List.setIfInBounds_toArray, List.set_cons_zero, List.set_cons_succ]
        refine held_take (i := 7) (v := ?_) (by rfl) (by kernel_rfl) (by kernel_rfl) (by kernel_rfl) (fun _ _ _ h => h) (Or.inl ⟨by rfl, ?_⟩) hHeld0 ?_
        rotate_left
        · (intro w hSw; (try dsimp only at hSw); go_simp; try with_reducible rfl)
        try simp only [Act.put, List.setIfInBounds_toArray, List.set_cons_zero, List.set_cons_succ]
        refine held_take (i := 8) (v := ?_) (by rfl) (by kernel_rfl) (by kernel_rfl) (by kernel_rfl) (fun _ _ _ h => h) (Or.inl ⟨by rfl, ?_⟩) hHeld0 ?_
        rotate_left
        · (intro w hSw; (try dsimp only at hSw); go_simp; try with_reducible rfl)
        try simp only [Act.put, List.setIfInBounds_toArray, List.set_cons_zero, List.set_cons_succ]
        refine held_take (i := 9) (v := ?_) (by rfl) (by kernel_rfl) (by kernel_rfl) (by kernel_rfl) (fun _ _ _ h => h) (Or.inl ⟨by rfl, ?_⟩) hHeld0 ?_
        rotate_left
        · (intro w hSw; (try dsimp only at hSw); go_simp; try with_reducible rfl)
        try simp only [Act.put, List.setIfInBounds_toArray, List.set_cons_zero, List.set_cons_succ]
        refine held_take (i := 10) (v := ?_) (by rfl) (by kernel_rfl) (by kernel_rfl) (by kernel_rfl) (fun _ _ _ h => h) (Or.inl ⟨by rfl, ?_⟩) hHeld0 ?_
        rotate_left
        · (intro w hSw; (try dsimp only at hSw); go_simp; try with_reducible rfl)
        try simp only [Act.put, List.setIfInBounds_toArray, List.set_cons_zero, List.set_cons_succ]
        refine held_take (i := 12) (v := ?_) (by rfl) (by kernel_rfl) (by kernel_rfl) (by kernel_rfl) (fun _ _ _ h => h) (Or.inl ⟨by rfl, ?_⟩) hHeld0 ?_
        rotate_left
        · (intro w hSw; (try dsimp only at hSw); go_simp; try with_reducible rfl)
        try simp only [Act.put, List.setIfInBounds_toArray, List.set_cons_zero, List.set_cons_succ]
        refine held_take (i := 13) (v := ?_) (by rfl) (by kernel_rfl) (by kernel_rfl) (by kernel_rfl) (fun _ _ _ h => h) (Or.inl ⟨by rfl, ?_⟩) hHeld0 ?_
        rotate_left
        · (intro w hSw; (try dsimp only at hSw); go_simp; try with_reducible rfl)
        try simp only [Act.put, List.setIfInBounds_toArray, List.set_cons_zero, List.set_cons_succ]
        refine held_take (i := 14) (v := ?_) (by rfl) (by kernel_rfl) (by kernel_rfl) (by kernel_rfl) (fun _ _ _ h => h) (Or.inl ⟨by rfl, ?_⟩) hHeld0 ?_
        rotate_left
        · (intro w hSw; (try dsimp only at hSw); go_simp; try with_reducible rfl)
        try simp only [Act.put, List.setIfInBounds_toArray, List.set_cons_zero, List.set_cons_succ]
        refine held_take (i := 15) (v := ?_) (by rfl) (by kernel_rfl) (by kernel_rfl) (by kernel_rfl) (fun _ _ _ h => h) (Or.inl ⟨by rfl, ?_⟩) hHeld0 ?_
        rotate_left
        · (intro w hSw; (try dsimp only at hSw); go_simp; try with_reducible rfl)
        try simp only [Act.put, List.setIfInBounds_toArray, List.set_cons_zero, List.set_cons_succ]
        refine held_take (i := 16) (v := ?_) (by rfl) (by kernel_rfl) (by kernel_rfl) (by kernel_rfl) (fun _ _ _ h => h) (Or.inl ⟨by rfl, ?_⟩) hHeld0 ?_
        rotate_left
        · (intro w hSw; (try dsimp only at hSw); go_simp; try with_reducible rfl)
        try simp only [Act.put, List.setIfInBounds_toArray, List.set_cons_zero, List.set_cons_succ]
        refine held_take (i := 17) (v := ?_) (by rfl) (by kernel_rfl) (by kernel_rfl) (by kernel_rfl) (fun _ _ _ h => h) (Or.inl ⟨by rfl, ?_⟩) hHeld0 ?_
        rotate_left
        · (intro w hSw; (try dsimp only at hSw); go_simp; try with_reducible rfl)
        try simp only [Act.put, List.setIfInBounds_toArray, List.set_cons_zero, List.set_cons_succ]
        refine wpAnyH_ready (rs := [11, 18]) (by kernel_rfl) (by simp) ?_
        refine held_cons (by rfl) (fun K hK => ?_) ?_
        · go_simp
          refine hK.out _ _ (by (try dsimp only); (first | with_reducible assumption | with_reducible exact hK1 | with_reducible exact hK2 | with_reducible exact hK3 | with_reducible exact hK6)) (fun hHeld1 => ?_)
          clear hK K hHeld0
          try simp only [Act.put, List.setIfInBounds_toArray, List.set_cons_zero, List.set_cons_succ]
          refine wpAnyH_ready (rs := [18]) (by kernel_rfl) (by simp) ?_
          refine held_cons (by rfl) (fun K hK => ?_) ?_
          · go_simp
            refine hK.out _ _ (by (try dsimp only); (first | with_reducible assumption | with_reducible exact hK1 | with_reducible exact hK2 | with_reducible exact hK3 | with_reducible exact hK6)) (fun hHeld2 => ?_)
            clear hK K hHeld1
            try simp only [Act.put, List.setIfInBounds_toArray, List.set_cons_zero, List.set_cons_succ]
            refine wpAnyH_ready (rs := [19]) (by kernel_rfl) (by simp) ?_
            refine held_cons (by rfl) (fun K hK => ?_) ?_
            · (first | (refine step_append_lies _ rfl (.tmp 74) (.tmp 81) 131 rfl 0 137 i0 _ 6 48 und_subs hi hz0 hz1 hz2 rfl (by decide) (.slice A n cA) n (flatSb l) rfl (HrowY.out.drew.alloc _) ⟨Y.heap.size, 0, none⟩ 1 1 [.int .i64 t, .int .i64 rk', .int .u64 G1, .int .i64 cp', .int .u64 0, .int .u64 0] rfl rfl (news6 _ _ _ _ _ _ _ _) (by simp [Value.oneCell']) (by omega) (by unfold maxLen; omega) (by omega) (by simp) (Y.heap.size + 1) (by simp) ?_; intro g4 c4' w4 hown4 hg4 hli4 hlt4; have hsub4 : w4.heap[m.sb]? = some (.cells m.rows.toArray 131) := (hg4.block m.sb (by simp; omega) (fun e => (Hsne.out _ e.symm).1 rfl)).trans (alloc_was _ _ _ _ HsubY.out); have r4 := cell_of hsub4 task; rw [show m.rows.toArray[task]? = some (.slice A n cA) by simpa using Hv.out] at r4; have f4 := frozen_of hsub4 task; have hK4 := HK w4 (fun i h1 h2 h3 => (hg4.block i (by simp; omega) (fun e => h2 e.symm)).trans ((below_new Y.drew _).block i h3)); have hK5 := HK (w4.setCell ⟨m.sb, task, none⟩ (.slice (some ⟨g4, 0, none⟩) (n + 1) c4')) (fun i h1 h2 h3 => (Below.heap_setCell w4 ⟨m.sb, task, none⟩ _ _ h1).trans ((hg4.block i (by simp; omega) (fun e => h2 e.symm)).trans ((below_new Y.drew _).block i h3)))))
              refine hK.out _ _ (by (try dsimp only); (first | with_reducible assumption | with_reducible exact hK1 | with_reducible exact hK2 | with_reducible exact hK3 | with_reducible exact hK6)) (fun hHeld3 => ?_)
              clear hK K hHeld2
              try simp only [Act.put, List.setIfInBounds_toArray, List.set_cons_zero, List.set_cons_succ]
              refine held_take (i := 20) (v := ?_) (by rfl) (by kernel_rfl) (by kernel_rfl) (by kernel_rfl) (fun _ _ _ h => h) (Or.inl ⟨by rfl, ?_⟩) hHeld3 ?_
              rotate_left
              · (intro w hSw; (try dsimp only at hSw); go_simp; try with_reducible rfl)
              try simp only [Act.put, List.setIfInBounds_toArray, List.set_cons_zero, List.set_cons_succ]
              refine wpAnyH_ready (rs := [21]) (by kernel_rfl) (by simp) ?_
              refine held_cons (by rfl) (fun K hK => ?_) ?_
              · go_simp
                refine hK.out _ _ (by (try dsimp only); (first | with_reducible assumption | with_reducible exact hK1 | with_reducible exact hK2 | with_reducible exact hK3 | with_reducible exact hK6)) (fun hHeld4 => ?_)
                clear hK K hHeld3
                try simp only [Act.put, List.setIfInBounds_toArray, List.set_cons_zero, List.set_cons_succ]
                refine wpAnyH_done (by kernel_rfl) ?_ _
                refine NoPanic.normal ?_
                clear hHeld4
                have hgY : ∀ i, (Value.slice A n cA).ownBlock ≠ some i → i < Y.heap.size → w4.heap[i]? = Y.heap[i]? := fun i h2 h3 => (hg4.block i (by simp; omega) (fun e => h2 e.symm)).trans ((below_new Y.drew _).block i h3)
                have hWs4 : Y.heap.size ≤ w4.heap.size := Nat.le_trans (by simp) hg4.size
                have hWB : w4.os = Y.os ∧ w4.tape = Y.tape ∧ w4.output = Y.output := ⟨hg4.os, hg4.tape, hg4.output⟩
                have hsubW := heap_setCell_same w4 m.sb task _ _ (.slice (some ⟨g4, 0, none⟩) (n + 1) c4') hsub4
                obtain ⟨W, hW⟩ : ∃ W, W = w4.setCell ⟨m.sb, task, none⟩ (.slice (some ⟨g4, 0, none⟩) (n + 1) c4') := ⟨_, rfl⟩
                have hWo : ∀ i, i ≠ m.sb → W.heap[i]? = w4.heap[i]? := fun i hi => (by rw [hW]; exact Below.heap_setCell w4 ⟨m.sb, task, none⟩ _ _ hi)
                have hWs : W.heap.size = w4.heap.size := (by rw [hW]; simp)
                have hWos : W.os = w4.os ∧ W.tape = w4.tape ∧ W.output = w4.output := (by rw [hW]; exact ⟨rfl, rfl, rfl⟩)
                rw [← hW] at hsubW ⊢
                clear hW hK4 hK5 hK1 hK2 hK3 hK6 HK yrd yra r4 f4
                have hsb6 : w.heap.size + 1 ≠ m.sb := by omega
                have hY6 : Y.heap[w.heap.size + 1]? = some anZ := (HYZ.out.block _ al).trans hZ6
                have hW6 : W.heap[w.heap.size + 1]? = some anZ := (hWo _ hsb6).trans ((hgY _ (fun e => by have := (Hsne.out _ e).2.2; omega) (Nat.lt_of_lt_of_le al HYZ.out.size)).trans hY6)
                have x7 : W.cell? ⟨m.bb, 7, none⟩ = some (.slice (some ⟨m.sb, 0, none⟩) T T) := (World.cell?_of_block (a := ⟨m.bb, 7, none⟩) ((hWo _ hsb1).trans (hgY _ (fun e => (Hsne.out _ e).2.1 rfl) yb))).trans y7
                have xr : W.cell? ⟨m.sb, task, none⟩ = some (.slice (some ⟨g4, 0, none⟩) (n + 1) c4') := by
                  rw [cell_of hsubW task]
                  have := (List.getElem?_eq_some_iff.1 Hv.out).1
                  simp [this]
                have xb : m.bb < W.heap.size := by omega
                have xs : m.sb < W.heap.size := by omega
                have hwn : IntKind.i64.wrap ((n : Int) + 1 - 1) = (n : Int) := by rw [IntKind.wrap_i64]; omega
                obtain ⟨b0, b1, b2, b3, b4, b5, b6, b7, b8, b9, b10, b11, bf, bl⟩ := row12 hW6
                clear y7 yr y1 y4 c0 c1 c2 c3 cf hY6
                go_wp2
                have hresl : Tryz.f34.results = #[.cell 6 44] := by kernel_rfl
                refine bodyPost_ret (v := anV { refS 0 with sub := n, gen := G } nilS nilS) ?_ rfl ?_
                · simp only [results, hresl]
                  go_simp
                  simp [refS, rg0]
                · have hZW : Z.heap.size ≤ W.heap.size := by have := HYZ.out.size; omega
                  have hg4s : g4 ≠ m.sb := by
                    rcases hli4 with e | e
                    · exact (Hsne.out _ e).1
                    · omega
                  have hbl4 : ∀ q, (Value.slice (some ⟨g4, 0, none⟩) (n + 1) c4').ownBlock = some q → (Value.slice A n cA).ownBlock = some q ∨ Z.heap.size ≤ q := fun q hq => by
                    cases hq
                    rcases hli4 with e | e
                    · exact .inl e
                    · right; have := HYZ.out.size; show Z.heap.size ≤ g4; omega
                  have hkW : ∀ i, i ≠ m.sb → (Value.slice A n cA).ownBlock ≠ some i → i < Z.heap.size → W.heap[i]? = Z.heap[i]? := fun i h1 h2 h3 =>
                    (hWo i h1).trans ((hgY i h2 (Nat.lt_of_lt_of_le h3 HYZ.out.size)).trans (HYZ.out.block i h3))
                  have hlm := List.mem_of_getElem? Hl.out
                  have hrowW : W.ownsRow 0 137 6 (.slice (some ⟨g4, 0, none⟩) (n + 1) c4') (l ++ [(⟨t, rk', ⟨G1, cp', 0, 0⟩⟩ : Sb)]).length (flatSb (l ++ [⟨t, rk', ⟨G1, cp', 0, 0⟩⟩])) := by
                    rw [flatSb_snoc, List.length_append, List.length_singleton, ← Hn.out]
                    exact own_keepAt hown4 (fun q hq => by cases hq; exact hWo _ hg4s)
                  have hIs := (HI.out.below hZb).set_row hk Hv.out (l' := l ++ [⟨t, rk', ⟨G1, cp', 0, 0⟩⟩]) (by rw [List.length_append, List.length_singleton, ← Hn.out]; omega) (fun s hs => by
                    rcases List.mem_append.1 hs with hs | hs
                    · have := HI.out.inv.subs l hlm s hs
                      omega
                    · rw [List.mem_singleton] at hs
                      subst hs
                      have h1 := Hhtl.out
                      have h2 := HG1.out
                      have h3 := Hgk.out
                      simp only
                      omega) hZW hkW (by simpa using hsubW) hrowW hbl4
                  have hTu : Turns Z W m (m.setRow task (.slice (some ⟨g4, 0, none⟩) (n + 1) c4')) := ⟨hWos.1.trans (hWB.1.trans HYZ.out.os), hWos.2.1.trans (hWB.2.1.trans HYZ.out.tape), hWos.2.2.trans (hWB.2.2.trans HYZ.out.output), hZW, fun i hi hn => hkW i (fun e => hn (.inr (.inr (.inr (.inr (.inl e)))))) (fun e => hn (.inr (.inr (.inr (.inr (.inr ⟨_, List.mem_of_getElem? Hv.out, e⟩)))))) hi, fun i hi => setRow_own Hv.out hbl4 i hi, fun i hi => .inl hi, rfl⟩
                  obtain ⟨s1, s2, s3, s4⟩ := set12_same W (w.heap.size + 1) (.int .i64 0) (.int .i64 n) (.int .u64 G) (.int .i64 0) (.int .u64 0) (.int .i64 0) (.int .i64 0) (.bool false) (.int .i64 0) (.int .u64 0) nilS nilS
                  exact post_up (a := { refS 0 with sub := n, gen := G }) HM.out hZb (Nat.le_succ _) al hIs hTu (World.ownsRow_nil _ _ _ _) (World.ownsRow_nil _ _ _ _) (fun q hq => by rcases hq with hq | hq <;> cases hq) s1 s2 s3 s4 (fun i hi => set12_other hi _ _ _ _ _ _ _ _ _ _ _ _)
              exact AllReadyH.nil
            exact AllReadyH.nil
          exact AllReadyH.nil
        refine held_cons (by rfl) (fun K hK => ?_) ?_
        · go_simp
          refine hK.out _ _ (by (try dsimp only); (first | with_reducible assumption | with_reducible exact hK1 | with_reducible exact hK2 | with_reducible exact hK3 | with_reducible exact hK6)) (fun hHeld5 => ?_)
          clear hK K hHeld0
          try simp only [Act.put, List.setIfInBounds_toArray, List.set_cons_zero, List.set_cons_succ]
          refine wpAnyH_ready (rs := [11]) (by kernel_rfl) (by simp) ?_
          refine held_cons (by rfl) (fun K hK => ?_) ?_
          · go_simp
            refine hK.out _ _ (by (try dsimp only); (first | with_reducible assumption | with_reducible exact hK1 | with_reducible exact hK2 | with_reducible exact hK3 | with_reducible exact hK6)) (fun hHeld6 => ?_)
            clear hK K hHeld5
            try simp only [Act.put, List.setIfInBounds_toArray, List.set_cons_zero, List.set_cons_succ]
            refine wpAnyH_ready (rs := [19]) (by kernel_rfl) (by simp) ?_
            refine held_cons (by rfl) (fun K hK => ?_) ?_
            · (first | (refine step_append_lies _ rfl (.tmp 74) (.tmp 81) 131 rfl 0 137 i0 _ 6 48 und_subs hi hz0 hz1 hz2 rfl (by decide) (.slice A n cA) n (flatSb l) rfl (HrowY.out.drew.alloc _) ⟨Y.heap.size, 0, none⟩ 1 1 [.int .i64 t, .int .i64 rk', .int .u64 G1, .int .i64 cp', .int .u64 0, .int .u64 0] rfl rfl (news6 _ _ _ _ _ _ _ _) (by simp [Value.oneCell']) (by omega) (by unfold maxLen; omega) (by omega) (by simp) (Y.heap.size + 1) (by simp) ?_; intro g4 c4' w4 hown4 hg4 hli4 hlt4; have hsub4 : w4.heap[m.sb]? = some (.cells m.rows.toArray 131) := (hg4.block m.sb (by simp; omega) (fun e => (Hsne.out _ e.symm).1 rfl)).trans (alloc_was _ _ _ _ HsubY.out); have r4 := cell_of hsub4 task; rw [show m.rows.toArray[task]? = some (.slice A n cA) by simpa using Hv.out] at r4; have f4 := frozen_of hsub4 task; have hK4 := HK w4 (fun i h1 h2 h3 => (hg4.block i (by simp; omega) (fun e => h2 e.symm)).trans ((below_new Y.drew _).block i h3)); have hK5 := HK (w4.setCell ⟨m.sb, task, none⟩ (.slice (some ⟨g4, 0, none⟩) (n + 1) c4')) (fun i h1 h2 h3 => (Below.heap_setCell w4 ⟨m.sb, task, none⟩ _ _ h1).trans ((hg4.block i (by simp; omega) (fun e => h2 e.symm)).trans ((below_new Y.drew _).block i h3)))))
              refine hK.out _ _ (by (try dsimp only); (first | with_reducible assumption | with_reducible exact hK1 | with_reducible exact hK2 | with_reducible exact hK3 | with_reducible exact hK6)) (fun hHeld7 => ?_)
              clear hK K hHeld6
              try simp only [Act.put, List.setIfInBounds_toArray, List.set_cons_zero, List.set_cons_succ]
              refine held_take (i := 20) (v := ?_) (by rfl) (by kernel_rfl) (by kernel_rfl) (by kernel_rfl) (fun _ _ _ h => h) (Or.inl ⟨by rfl, ?_⟩) hHeld7 ?_
              rotate_left
              · (intro w hSw; (try dsimp only at hSw); go_simp; try with_reducible rfl)
              try simp only [Act.put, List.setIfInBounds_toArray, List.set_cons_zero, List.set_cons_succ]
              refine wpAnyH_ready (rs := [21]) (by kernel_rfl) (by simp) ?_
              refine held_cons (by rfl) (fun K hK => ?_) ?_
              · go_simp
                refine hK.out _ _ (by (try dsimp only); (first | with_reducible assumption | with_reducible exact hK1 | with_reducible exact hK2 | with_reducible exact hK3 | with_reducible exact hK6)) (fun hHeld8 => ?_)
                clear hK K hHeld7
                try simp only [Act.put, List.setIfInBounds_toArray, List.set_cons_zero, List.set_cons_succ]
                refine wpAnyH_done (by kernel_rfl) ?_ _
                refine NoPanic.normal ?_
                clear hHeld8
                have hgY : ∀ i, (Value.slice A n cA).ownBlock ≠ some i → i < Y.heap.size → w4.heap[i]? = Y.heap[i]? := fun i h2 h3 => (hg4.block i (by simp; omega) (fun e => h2 e.symm)).trans ((below_new Y.drew _).block i h3)
                have hWs4 : Y.heap.size ≤ w4.heap.size := Nat.le_trans (by simp) hg4.size
                have hWB : w4.os = Y.os ∧ w4.tape = Y.tape ∧ w4.output = Y.output := ⟨hg4.os, hg4.tape, hg4.output⟩
                have hsubW := heap_setCell_same w4 m.sb task _ _ (.slice (some ⟨g4, 0, none⟩) (n + 1) c4') hsub4
                obtain ⟨W, hW⟩ : ∃ W, W = w4.setCell ⟨m.sb, task, none⟩ (.slice (some ⟨g4, 0, none⟩) (n + 1) c4') := ⟨_, rfl⟩
                have hWo : ∀ i, i ≠ m.sb → W.heap[i]? = w4.heap[i]? := fun i hi => (by rw [hW]; exact Below.heap_setCell w4 ⟨m.sb, task, none⟩ _ _ hi)
                have hWs : W.heap.size = w4.heap.size := (by rw [hW]; simp)
                have hWos : W.os = w4.os ∧ W.tape = w4.tape ∧ W.output = w4.output := (by rw [hW]; exact ⟨rfl, rfl, rfl⟩)
                rw [← hW] at hsubW ⊢
                clear hW hK4 hK5 hK1 hK2 hK3 hK6 HK yrd yra r4 f4
                have hsb6 : w.heap.size + 1 ≠ m.sb := by omega
                have hY6 : Y.heap[w.heap.size + 1]? = some anZ := (HYZ.out.block _ al).trans hZ6
                have hW6 : W.heap[w.heap.size + 1]? = some anZ := (hWo _ hsb6).trans ((hgY _ (fun e => by have := (Hsne.out _ e).2.2; omega) (Nat.lt_of_lt_of_le al HYZ.out.size)).trans hY6)
                have x7 : W.cell? ⟨m.bb, 7, none⟩ = some (.slice (some ⟨m.sb, 0, none⟩) T T) := (World.cell?_of_block (a := ⟨m.bb, 7, none⟩) ((hWo _ hsb1).trans (hgY _ (fun e => (Hsne.out _ e).2.1 rfl) yb))).trans y7
                have xr : W.cell? ⟨m.sb, task, none⟩ = some (.slice (some ⟨g4, 0, none⟩) (n + 1) c4') := by
                  rw [cell_of hsubW task]
                  have := (List.getElem?_eq_some_iff.1 Hv.out).1
                  simp [this]
                have xb : m.bb < W.heap.size := by omega
                have xs : m.sb < W.heap.size := by omega
                have hwn : IntKind.i64.wrap ((n : Int) + 1 - 1) = (n : Int) := by rw [IntKind.wrap_i64]; omega
                obtain ⟨b0, b1, b2, b3, b4, b5, b6, b7, b8, b9, b10, b11, bf, bl⟩ := row12 hW6
                clear y7 yr y1 y4 c0 c1 c2 c3 cf hY6
                go_wp2
                have hresl : Tryz.f34.results = #[.cell 6 44] := by kernel_rfl
                refine bodyPost_ret (v := anV { refS 0 with sub := n, gen := G } nilS nilS) ?_ rfl ?_
                · simp only [results, hresl]
                  go_simp
                  simp [refS, rg0]
                · have hZW : Z.heap.size ≤ W.heap.size := by have := HYZ.out.size; omega
                  have hg4s : g4 ≠ m.sb := by
                    rcases hli4 with e | e
                    · exact (Hsne.out _ e).1
                    · omega
                  have hbl4 : ∀ q, (Value.slice (some ⟨g4, 0, none⟩) (n + 1) c4').ownBlock = some q → (Value.slice A n cA).ownBlock = some q ∨ Z.heap.size ≤ q := fun q hq => by
                    cases hq
                    rcases hli4 with e | e
                    · exact .inl e
                    · right; have := HYZ.out.size; show Z.heap.size ≤ g4; omega
                  have hkW : ∀ i, i ≠ m.sb → (Value.slice A n cA).ownBlock ≠ some i → i < Z.heap.size → W.heap[i]? = Z.heap[i]? := fun i h1 h2 h3 =>
                    (hWo i h1).trans ((hgY i h2 (Nat.lt_of_lt_of_le h3 HYZ.out.size)).trans (HYZ.out.block i h3))
                  have hlm := List.mem_of_getElem? Hl.out
                  have hrowW : W.ownsRow 0 137 6 (.slice (some ⟨g4, 0, none⟩) (n + 1) c4') (l ++ [(⟨t, rk', ⟨G1, cp', 0, 0⟩⟩ : Sb)]).length (flatSb (l ++ [⟨t, rk', ⟨G1, cp', 0, 0⟩⟩])) := by
                    rw [flatSb_snoc, List.length_append, List.length_singleton, ← Hn.out]
                    exact own_keepAt hown4 (fun q hq => by cases hq; exact hWo _ hg4s)
                  have hIs := (HI.out.below hZb).set_row hk Hv.out (l' := l ++ [⟨t, rk', ⟨G1, cp', 0, 0⟩⟩]) (by rw [List.length_append, List.length_singleton, ← Hn.out]; omega) (fun s hs => by
                    rcases List.mem_append.1 hs with hs | hs
                    · have := HI.out.inv.subs l hlm s hs
                      omega
                    · rw [List.mem_singleton] at hs
                      subst hs
                      have h1 := Hhtl.out
                      have h2 := HG1.out
                      have h3 := Hgk.out
                      simp only
                      omega) hZW hkW (by simpa using hsubW) hrowW hbl4
                  have hTu : Turns Z W m (m.setRow task (.slice (some ⟨g4, 0, none⟩) (n + 1) c4')) := ⟨hWos.1.trans (hWB.1.trans HYZ.out.os), hWos.2.1.trans (hWB.2.1.trans HYZ.out.tape), hWos.2.2.trans (hWB.2.2.trans HYZ.out.output), hZW, fun i hi hn => hkW i (fun e => hn (.inr (.inr (.inr (.inr (.inl e)))))) (fun e => hn (.inr (.inr (.inr (.inr (.inr ⟨_, List.mem_of_getElem? Hv.out, e⟩)))))) hi, fun i hi => setRow_own Hv.out hbl4 i hi, fun i hi => .inl hi, rfl⟩
                  obtain ⟨s1, s2, s3, s4⟩ := set12_same W (w.heap.size + 1) (.int .i64 0) (.int .i64 n) (.int .u64 G) (.int .i64 0) (.int .u64 0) (.int .i64 0) (.int .i64 0) (.bool false) (.int .i64 0) (.int .u64 0) nilS nilS
                  exact post_up (a := { refS 0 with sub := n, gen := G }) HM.out hZb (Nat.le_succ _) al hIs hTu (World.ownsRow_nil _ _ _ _) (World.ownsRow_nil _ _ _ _) (fun q hq => by rcases hq with hq | hq <;> cases hq) s1 s2 s3 s4 (fun i hi => set12_other hi _ _ _ _ _ _ _ _ _ _ _ _)
              exact AllReadyH.nil
            exact AllReadyH.nil
          exact AllReadyH.nil
        exact AllReadyH.nil

end Go.Proofs.YtpilfhjlfbjloaaGreatDoor
