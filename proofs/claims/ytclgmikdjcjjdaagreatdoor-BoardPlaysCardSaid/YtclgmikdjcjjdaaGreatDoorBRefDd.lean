/-
  The walk of the reference's Do: Snapshot. Conditions: the document's blackboard in memory; records of 1 to 100 words.
-/
import Derived.Test.YtclgmikdjcjjdaaGreatDoorBRefDc
namespace Go.Proofs.YtclgmikdjcjjdaaGreatDoor
open Go.RowKit

def snapRo (X : Rb) : List Int → List Nat → List Int → An
  | [], gs, ws => { refS 0 with gens := gs, words := ws }
  | t :: r, gs, ws => if (decide (0 ≤ t) && decide (t < X.tp.length)) = false then refS 14 else snapRo X r (gs ++ [(X.al t.toNat).length - 1]) (ws ++ (X.al t.toNat).getD ((X.al t.toNat).length - 1) [])

/-- What reading a record of a topic needs. -/
theorem IsRef.newest {base : Nat} {w : World} {lab : Nat → Option Lb} {m : RMem} {X : Rb} (h : IsRef base w lab m X) {t G : Nat} (ht : t < X.tp.length) (hG : (X.al t).length = G + 1) :
    ∃ br orr cr bt ot ct A9 c9, w.cell? ⟨m.bb, 4, none⟩ = some (.slice (some ⟨br, orr, none⟩) X.tp.length cr) ∧ w.cell? ⟨br, orr + t, none⟩ = some (.slice (some ⟨bt, ot, none⟩) (G + 1) ct) ∧ w.cell? ⟨bt, ot + G, none⟩ = some (.slice A9 ((X.al t).getD G []).length c9) ∧
      Rd w (.slice A9 ((X.al t).getD G []).length c9) 1 ((X.al t).getD G []).length (u64V ((X.al t).getD G [])) ∧ (∀ q, (Value.slice A9 ((X.al t).getD G []).length c9).ownBlock = some q → lab q ≠ none) ∧
      m.bb < w.heap.size ∧ br < w.heap.size ∧ bt < w.heap.size ∧ X.tp.length ≤ cr ∧ cr ≤ maxLen ∧ G + 1 ≤ ct ∧ ct ≤ maxLen := by
  obtain ⟨t0, t1, t2, t3, t4, t5, t6, t7, t8, t9, t10, t11, tf, tl⟩ := row12 h.blk
  obtain ⟨br, orr, cr, hvr, hra, hrb, hrl, hrc⟩ := h.rdRecs.open_ (by omega)
  have qr := hrc _ _ (range_at ht m.recT)
  obtain ⟨bt, ot, ct, hvt, hta, htb, htl, htc⟩ := (h.rdRec ht).open_ (by omega)
  have hGl : G < (X.al t).length := by omega
  have qt := htc _ _ (range_at hGl (m.word t))
  have hrdW := h.rdWord ht hGl
  obtain ⟨A9, c9, hv9, -⟩ := hrdW.shape
  rw [hvr] at t4
  rw [hvt] at qr
  rw [hv9] at qt hrdW
  have hrowW := (h.rows.row (.word t G) _ (by simp [refR, ht, hGl]; rfl)).2
  simp only [hv9] at hrowW
  rw [hG] at qr hta
  exact ⟨br, orr, cr, bt, ot, ct, A9, c9, t4, qr, qt, hrdW, (fun q hq e => by have := hrowW q hq; rw [e] at this; cases this), tl, hrl, htl, hra, hrb, hta, htb⟩


set_option maxRecDepth 100000 in
set_option maxHeartbeats 1600000 in
theorem rdo_snap {base : Nat} {w : World} {lab : Nat → Option Lb} {m : RMem} {X : Rb} (h : IsRef base w lab m X) (hg : RGood X) {task : Nat} (hk : task < X.tasks) (c : Cl) (sv : Value) (A' : Option Addr) (wl cA' : Nat) (hwl : wl = c.words.length) (hs : Rd w sv 1 c.set.length (c.set.map (Value.int .i64))) (hsn : c.set.length ≤ 100) (hwn : wl ≤ 100) (hrw : Rd w (.slice A' wl cA') 1 wl (u64V c.words)) (hc : callS c = 0) (hwd : ∀ t, ∀ ws ∈ X.al t, 1 ≤ ws.length ∧ ws.length ≤ 100)
    (h3 : (c.kind == 3) = true) :
    Calls Tryz.prog 10 #[.pointer (some ⟨m.bb, 0, none⟩), .int .i64 task, clV c sv (.slice A' wl cA')] w fun e w' => RPost base w lab m (X, snapRo X c.set [] []) e w' := by
  obtain ⟨P, hP⟩ : ∃ P, P = snapRo X c.set [] [] := ⟨_, rfl⟩
  rw [← hP]
  obtain ⟨kd, tp, sb, cp, rk, so, md, fl, fr, set, ws⟩ := c
  simp only at hwl hs hsn hc h3 hP ⊢
  obtain ⟨t0, t1, t2, t3, t4, t5, t6, t7, t8, t9, t10, t11, tf, tl⟩ := row12 h.blk
  obtain ⟨T, hT⟩ : ∃ T, T = X.tasks := ⟨_, rfl⟩
  have hk' := hk
  rw [← hT] at t0 hk'
  have hT63 : T ≤ 9223372036854775807 := by have := hg.push.tasks; omega
  have HCH := hide (fun (w' : World) (hb : Below w.heap.size w w') => check17_any ⟨kd, tp, sb, cp, rk, so, md, fl, fr, set, ws⟩ sv A' set.length wl cA' w' rfl hsn hwl hwn (hs.below hb))
  have HCC := hide hc
  have H := hide h
  have HG := hide hg
  have HT := hide hT
  have Hwl := hide hwl
  have Hs := hide hs
  have HrW := hide hrw
  clear h hg hT hc hwl hs hrw t1 t2 t3 t4 t5 t6 t7 t8 t9 t10 t11 tf
  have HP := hide hP
  have Hwd := hide hwd
  clear hP hwd
  go_enter Tryz.func10, Tryz.ntmps10
  go_wp2_with fail
  obtain ⟨Z, hZ⟩ : ∃ Z, Z = (w.alloc (clO ⟨kd, tp, sb, cp, rk, so, md, fl, fr, set, ws⟩ sv (.slice A' wl cA'))).alloc anZ := ⟨_, rfl⟩
  have hZb : Below w.heap.size w Z := by rw [hZ]; exact below_new2 w _ _
  have hZ5 : Z.heap[w.heap.size]? = some (clO ⟨kd, tp, sb, cp, rk, so, md, fl, fr, set, ws⟩ sv (.slice A' wl cA')) := by rw [hZ]; exact (heap_two w _ _).1
  have hZ6 : Z.heap[w.heap.size + 1]? = some anZ := by rw [hZ]; exact (heap_two w _ _).2
  rw [← hZ]
  have HZ := hide hZ
  clear hZ
  obtain ⟨t0, t1, t2, t3, t4, t5, t6, t7, t8, t9, t10, tf, tl⟩ := row11 hZ5
  obtain ⟨a0, a1, a2, a3, a4, a5, a6, a7, a8, a9, a10, a11, af, al⟩ := row12 hZ6
  refine (HCH.out Z hZb).mono ?_
  rintro e Y ⟨he, hbY⟩
  rw [HCC.out] at he
  subst he
  have HYb := hide (hZb.trans (hbY.mono hZb.size))
  have HY5 := hide ((hbY.block _ tl).trans hZ5)
  have HY6 := hide ((hbY.block _ al).trans hZ6)
  have HZs := hide (show w.heap.size + 1 < Y.heap.size from Nat.lt_of_lt_of_le al hbY.size)
  clear t0 t1 t2 t3 t4 t5 t6 t7 t8 t9 t10 tf tl a0 a1 a2 a3 a4 a5 a6 a7 a8 a9 a10 a11 af al hZ5 hZ6 hbY hZb HZ
  obtain ⟨t0, t1, t2, t3, t4, t5, t6, t7, t8, t9, t10, tf, tl⟩ := row11 HY5.out
  obtain ⟨a0, a1, a2, a3, a4, a5, a6, a7, a8, a9, a10, a11, af, al⟩ := row12 HY6.out
  go_wp2_with fail
  obtain ⟨V, hV⟩ : ∃ V, V = Y.alloc anZ := ⟨_, rfl⟩
  have hVB : Below Y.heap.size Y V := by rw [hV]; exact below_new Y _
  have hV7 : V.heap[Y.heap.size]? = some anZ := by rw [hV]; exact heap_alloc_new _ _
  rw [← hV]
  have HVb := hide (HYb.out.trans (hVB.mono HYb.out.size))
  have HVB := hide hVB
  have HV5 := hide ((hVB.block _ tl).trans HY5.out)
  have HV6 := hide ((hVB.block _ al).trans HY6.out)
  have hYg := HZs.out
  clear hV hVB t0 t1 t2 t3 t4 t5 t6 t7 t8 t9 t10 tf tl a0 a1 a2 a3 a4 a5 a6 a7 a8 a9 a10 a11 af al
  obtain ⟨n, hn⟩ : ∃ n, n = set.length := ⟨_, rfl⟩
  obtain ⟨As, cs, rfl, hs1, hs2, -⟩ := Hs.out.shape
  rw [← hn] at hs1 hsn
  have Hn := hide hn
  clear hn HCH
  go_loopw [9] (fun i wr => ∃ (j : Nat) (gs : List Nat) (us : List Int) (G : Option Addr) (cg : Nat) (U : Option Addr) (cu : Nat), j ≤ n ∧ i = .int .i64 j ∧ Hid (P = snapRo X (set.drop j) gs us) ∧ gs.length = j ∧ us.length ≤ 100 * j ∧
      Hid (Below Y.heap.size V wr) ∧ wr.heap[Y.heap.size]? = some (.cells #[.int .i64 0, .int .i64 0, .int .u64 0, .int .i64 0, .int .u64 0, .int .i64 0, .int .i64 0, .bool false, .int .i64 0, .int .u64 0, .slice G j cg, .slice U us.length cu] 41) ∧
      Hid (wr.ownsRow (Y.heap.size + 1) 36 1 (.slice G j cg) j (natL gs)) ∧ Hid (wr.ownsRow (Y.heap.size + 1) 36 1 (.slice U us.length cu) us.length (u64V us)) ∧ Hid (∀ q, (Value.slice G j cg).ownBlock = some q → (Value.slice U us.length cu).ownBlock ≠ some q)) (fun i _ => n - (intOf i).toNat)
  case atStart => exact ⟨0, [], [], none, 0, none, 0, Nat.zero_le _, rfl, HP, rfl, Nat.zero_le _, hide (Below.refl _ _), hV7, hide (World.ownsRow_nil _ _ _ _), hide (World.ownsRow_nil _ _ _ _), hide (fun q hq => by cases hq)⟩
  case round =>
    obtain ⟨j, gs, us, G, cg, U, cu, hj, rfl, Hgo, hgs, hus, HB, hT7, HG7, HU7, HGU⟩ := hrel
    have hbw : Below w.heap.size w wr := HVb.out.trans (HB.out.mono HYb.out.size)
    have hT6 : wr.heap[w.heap.size + 1]? = some anZ := (HB.out.block _ HZs.out).trans HV6.out
    have hT5 := (HB.out.block w.heap.size (by omega)).trans HV5.out
    obtain ⟨t0, t1, t2, t3, t4, t5, t6, t7, t8, t9, t10, tf, tl⟩ := row11 hT5
    rw [← Hn.out] at t9
    by_cases hlt : j < n
    · obtain ⟨bs, os, c1, hv, h1, h2, hb, hc⟩ := Hs.out.open_ (by have := Hn.out; omega)
      cases hv
      obtain ⟨x, hx⟩ : ∃ x, set[j]? = some x := ⟨set[j]'(by have := Hn.out; omega), List.getElem?_eq_getElem _⟩
      have d00 := hc j (.int .i64 x) (by simp [hx])
      have HSet := hide (fun (w' : World) (hb' : Below w.heap.size w w') => show w'.cell? ⟨bs, os + j, none⟩ = some (.int .i64 x) ∧ bs < w'.heap.size from ⟨(hb'.cell (p := ⟨bs, os + j, none⟩) hb).trans d00, Nat.lt_of_lt_of_le hb hb'.size⟩)
      obtain ⟨d0, hbl0⟩ := HSet.out _ hbw
      clear d00 hb
      have hdrop : set.drop j = x :: set.drop (j + 1) := by
        have hjl := (List.getElem?_eq_some_iff.1 hx).1
        rw [List.drop_eq_getElem_cons hjl]
        congr 1
        exact (List.getElem?_eq_some_iff.1 hx).2
      have Hbw := hide hbw
      cases hin : (decide (0 ≤ x) && decide (x < X.tp.length)) with
      | false =>
        have Hend := hide (show P = refS 14 by rw [Hgo.out, hdrop, snapRo, if_pos hin])
        have HIN := hide hin
        clear hx hc hdrop hin hT7 hbw
        go_wp2_with fail
        refine (ris_any (H.out.below Hbw.out) x).mono ?_
        rintro e w1 ⟨he, hb1⟩
        rw [HIN.out] at he
        subst he
        have hT6' := (hb1.block _ (block_lt hT6)).trans hT6
        obtain ⟨a0, a1, a2, a3, a4, a5, a6, a7, a8, a9, a10, a11, af, al⟩ := row12 hT6'
        clear t0 t1 t2 t3 t4 t5 t6 t7 t8 t9 t10 tf tl hT6 hT5
        go_wp2
        rw [Hend.out]
        have hresl : Tryz.f10.results = #[.cell 6 41] := by kernel_rfl
        refine bodyPost_ret (v := anV (refS 14) nilS nilS) ?_ rfl ?_
        · simp only [results, hresl]
          go_simp
          simp [refS, rg0]
        · exact rpost_plain H.out (set12_below (below2 Hbw.out hb1) (Nat.le_succ _) _ _ _ _ _ _ _ _ _ _ _ _) rfl rfl
      | true =>
        obtain ⟨t, rfl, htN⟩ : ∃ t : Nat, x = t ∧ t < X.tp.length := ⟨x.toNat, by simp at hin; omega, by simp at hin; omega⟩
        obtain ⟨Gt, hGt⟩ : ∃ Gt, (X.al t).length = Gt + 1 := ⟨(X.al t).length - 1, by have := (HG.out.recs t htN).1; omega⟩
        have hGtb : Gt ≤ 1000000 := by have := (HG.out.recs t htN).2; omega
        have HNE0 := fun (w' : World) (hb : Below w.heap.size w w') => (H.out.below hb).newest htN hGt
        obtain ⟨nw, hnw⟩ : ∃ q, q = (X.al t).getD Gt [] := ⟨_, rfl⟩
        rw [← hnw] at HNE0
        have HNE := hide HNE0
        have hnwl : 1 ≤ nw.length ∧ nw.length ≤ 100 := Hwd.out t nw (by
          have h9 : (X.al t)[Gt]? = some nw := by rw [hnw, List.getD_eq_getElem?_getD, List.getElem?_eq_getElem (show Gt < (X.al t).length by omega)]; rfl
          exact List.mem_of_getElem? h9)
        have Hnx := hide (show P = snapRo X (set.drop (j + 1)) (gs ++ [Gt]) (us ++ nw) by
          rw [Hgo.out, hdrop, snapRo, if_neg (by rw [hin]; simp), Int.toNat_natCast, hGt, Nat.add_sub_cancel, hnw])
        have HGE := hide (fun (w' : World) (hb : Below w.heap.size w w') => rgen_any (H.out.below hb) htN hGt hGtb)
        have HIN := hide hin
        have Hgs := hide hgs
        have HT7 := hide hT7
        obtain ⟨N, hN⟩ : ∃ N, N = X.tp.length := ⟨_, rfl⟩
        have HN := hide hN
        have htN' : t < N := by omega
        clear hx hc hdrop hin hbw hGt hnw HNE0 hgs hT7 hN
        go_wp2_with fail
        refine (ris_any (H.out.below Hbw.out) _).mono ?_
        rintro e w1 ⟨he, hb1⟩
        rw [HIN.out] at he
        subst he
        have Hb1 := hide hb1
        have Hbw1 := hide (below2 Hbw.out hb1)
        have t9a := (hb1.cell (p := ⟨w.heap.size, 9, none⟩) tl).trans t9
        have tla := Nat.lt_of_lt_of_le tl hb1.size
        obtain ⟨d0a, hbla⟩ := HSet.out _ Hbw1.out
        clear hb1 d0 hbl0 t0 t1 t2 t3 t4 t5 t6 t7 t8 t10 tf hT6 hT5
        go_wp2_with fail
        refine (HGE.out w1 Hbw1.out).mono ?_
        rintro e w2 ⟨rfl, hb2⟩
        have hb12 : Below wr.heap.size wr w2 := Hb1.out.trans (hb2.mono Hb1.out.size)
        have hT7b := (hb12.block _ (block_lt HT7.out)).trans HT7.out
        have hsz : Y.heap.size + 1 ≤ w2.heap.size := block_lt hT7b
        have HG2 := hide (own_keepAt HG7.out (w' := w2) (fun q hq => hb12.block q (HG7.out.lt q hq).2))
        have HU2 := hide (own_keepAt HU7.out (w' := w2) (fun q hq => hb12.block q (HU7.out.lt q hq).2))
        have HT7b := hide hT7b
        have Hb12 := hide hb12
        obtain ⟨p0, p1, p2, p3, p4, p5, p6, p7, p8, p9, p10, p11, pf, pl⟩ := row12 hT7b
        clear p0 p1 p2 p3 p4 p5 p6 p7 p8 p9 hT7b hb12 hb2 t9a tla d0a hbla t9 tl
        obtain ⟨i0, hi, hz0, hz1, hz2⟩ := info_parts info_u64q
        go_wp2_with (at_builtin; generalize hGG : wpList _ _ _ _ _ _ = GG)
        subst hGG
        refine wpList_append_lies _ rfl (.tmp 62) (.tmp 64) 39 rfl (Y.heap.size + 1) 36 i0 _ 1 8 und_u64q hi hz0 hz1 hz2 rfl (by decide) (.slice G j cg) j (natL gs) rfl (HG2.out.alloc _) ⟨w2.heap.size, 0, none⟩ 1 1 [.int .u64 Gt] rfl rfl (news1 _ _ _) (by simp [Value.oneCell']) (by omega) (by unfold maxLen; omega) (by omega) (by simp; omega) (w2.heap.size + 1) (by simp) ?_
        intro ga ca w3 hown3 hg3 hli3 hlt3
        have hF3 : Below (Y.heap.size + 1) w2 w3 := fr_grown ((below_new w2 _).mono hsz) hg3 (fun q hq => (HG7.out.lt q hq).1) hsz
        have hU3 := kept_ne (HU2.out.alloc _) hg3 (fun q hq hq2 => HGU.out q hq2 hq)
        have hT7c := (hF3.block _ (Nat.lt_succ_self _)).trans HT7b.out
        have HF3 := hide hF3
        have HU3 := hide hU3
        have HT7c := hide hT7c
        have Hown3 := hide hown3
        have Hli3 := hide hli3
        obtain ⟨p0, p1, p2, p3, p4, p5, p6, p7, p8, p9, p10, p11, pf, pl⟩ := row12 hT7c
        clear p0 p1 p2 p3 p4 p5 p6 p7 p8 p9 hT7c hF3 hU3 hown3 hg3 hli3 hi hz0 hz1 hz2
        go_wp2_with fail
        have hga7 : Y.heap.size + 1 ≤ ga := (Hown3.out.lt ga rfl).1
        have hT8 : (w3.setCell ⟨Y.heap.size, 10, none⟩ (.slice (some ⟨ga, 0, none⟩) (j + 1) ca)).heap[Y.heap.size]? = some (.cells #[.int .i64 0, .int .i64 0, .int .u64 0, .int .i64 0, .int .u64 0, .int .i64 0, .int .i64 0, .bool false, .int .i64 0, .int .u64 0, .slice (some ⟨ga, 0, none⟩) (j + 1) ca, .slice U us.length cu] 41) := heap_setCell_same w3 Y.heap.size 10 _ _ (.slice (some ⟨ga, 0, none⟩) (j + 1) ca) HT7c.out
        have hoz : ∀ q : Nat, q ≠ Y.heap.size → (w3.setCell ⟨Y.heap.size, 10, none⟩ (.slice (some ⟨ga, 0, none⟩) (j + 1) ca)).heap[q]? = w3.heap[q]? := fun q hq => Below.heap_setCell w3 ⟨Y.heap.size, 10, none⟩ _ _ hq
        have hF4 : Below Y.heap.size w2 (w3.setCell ⟨Y.heap.size, 10, none⟩ (.slice (some ⟨ga, 0, none⟩) (j + 1) ca)) := (HF3.out.mono (Nat.le_succ _)).setCell (Nat.le_refl Y.heap.size) _
        have hlt4 : ga < (w3.setCell ⟨Y.heap.size, 10, none⟩ (.slice (some ⟨ga, 0, none⟩) (j + 1) ca)).heap.size := by simpa using hlt3
        have hFs : w2.heap.size ≤ w3.heap.size := HF3.out.size
        clear p10 p11 pf pl
        generalize w3.setCell ⟨Y.heap.size, 10, none⟩ (.slice (some ⟨ga, 0, none⟩) (j + 1) ca) = W at *
        have hG4 := own_keepAt Hown3.out (w' := W) (fun q hq => hoz q (by have := (Hown3.out.lt q hq).1; omega))
        have hU4 := own_keepAt HU3.out (w' := W) (fun q hq => hoz q (by have := (HU3.out.lt q hq).1; omega))
        have hGU4 : ∀ q, (Value.slice (some ⟨ga, 0, none⟩) (j + 1) ca).ownBlock = some q → (Value.slice U us.length cu).ownBlock ≠ some q := fun q hq hq2 => by
          have e : ga = q := Option.some.inj hq
          subst e
          rcases Hli3.out with h9 | h9
          · exact HGU.out _ h9 hq2
          · have := (HU2.out.lt _ hq2).2; omega
        have HbW := hide (Hbw.out.trans ((Hb12.out.mono Hbw.out.size).trans (hF4.mono (by omega))))
        have HBW := hide (HB.out.trans ((Hb12.out.mono (by have := HT7.out; have := block_lt this; omega)).trans hF4))
        have HG4 := hide hG4
        have HU4 := hide hU4
        have HGU4 := hide hGU4
        have HT8 := hide hT8
        obtain ⟨br, orr, cr, bt, ot, ct, A9, c9, y4, qr, qt, hrdW, -, yb1, yb2, yb3, hcr, hcr2, hct, hct2⟩ := HNE.out W HbW.out
        rw [← HN.out] at y4 hcr
        have hN63 : N ≤ 9223372036854775807 := by unfold maxLen at hcr2; omega
        obtain ⟨n1, hn1⟩ : ∃ n1, n1 = Gt + 1 := ⟨_, rfl⟩
        rw [← hn1] at qr hct
        have hGn1 : Gt < n1 := by omega
        have hn163 : n1 ≤ 9223372036854775807 := by omega
        clear hn1
        obtain ⟨d0, hbl0⟩ := HSet.out _ HbW.out
        have hW5 := (HBW.out.block w.heap.size (by omega)).trans HV5.out
        obtain ⟨t0, t1, t2, t3, t4, t5, t6, t7, t8, t9, t10, tf, tl⟩ := row11 hW5
        rw [← Hn.out] at t9 h1
        obtain ⟨p0, p1, p2, p3, p4, p5, p6, p7, p8, p9, p10, p11, pf, pl⟩ := row12 hT8
        obtain ⟨nl, hnl⟩ : ∃ x, x = nw.length := ⟨_, rfl⟩
        obtain ⟨ul, hul⟩ : ∃ x, x = us.length := ⟨_, rfl⟩
        rw [← hnl] at qt hrdW hnwl
        rw [← hul] at p11
        have HrdW := hide hrdW
        have Hnl := hide hnl
        have Hul := hide hul
        clear t0 t1 t2 t3 t4 t5 t6 t7 t8 t10 tf p0 p1 p2 p3 p4 p5 p6 p7 p8 p9 p10 hT8 hG4 hU4 hGU4 hF4 hW5 hnl hul hrdW hoz
        refine wp_region_ext_tail 16 (by kernel_rfl) (by kernel_rfl) (fun _ _ d _ _ h => by cases d <;> exact h) ?_
        simp only [List.take_succ_cons, List.take_zero, List.drop_succ_cons, List.drop_zero]
        repeat (first
          | go_big_quiet_skip
          | (go_big_quiet_want
             first
               | (apply quiet_val
                  · intro wq hq
                    have hcq := hq.cells
                    have hzq := hq.lift
                    go_simp
                    try go_bits
                    first | done | with_reducible rfl
                  (try simp only [Act.put, List.setIfInBounds_toArray, List.set_cons_zero, List.set_cons_succ])
                  go_big_quiet_on)))
        refine wpQuiet_nil ?_
        intro w5 h5
        have hB5 : Below W.heap.size W w5 := h5.below
        have HG5 := hide (own_keepAt HG4.out (w' := w5) (fun q hq => hB5.block q (HG4.out.lt q hq).2))
        have HU5 := hide (own_keepAt HU4.out (w' := w5) (fun q hq => hB5.block q (HU4.out.lt q hq).2))
        have hT7e := (hB5.block _ pl).trans HT8.out
        have hsz5 : Y.heap.size + 1 ≤ w5.heap.size := block_lt hT7e
        have HT7e := hide hT7e
        have HB5 := hide hB5
        obtain ⟨b9, o9, c9', hv9, -, -, hbl9, hc9⟩ := (HrdW.out.below hB5).open_ (by omega)
        cases hv9
        have Hc9 := hide hc9
        have hul2 := Hul.out
        have hnw2 : (u64V nw).length = nl := by rw [Hnl.out]; simp
        obtain ⟨i1, hi, hz0, hz1, hz2⟩ := info_parts info_u64q
        clear y4 qr qt t9 tl d0 hbl0 p11 pf pl yb1 yb2 yb3 hB5 hT7e h5 hc9
        have HU5' := HU5.out
        rw [← hul2] at HU5'
        clear hul2
        go_wp2_with (at_builtin; generalize hGG : wpList _ _ _ _ _ _ = GG)
        subst hGG
        refine wpList_append_lies _ rfl (.tmp 68) (.tmp 82) 39 rfl (Y.heap.size + 1) 36 i1 _ 1 8 und_u64q hi hz0 hz1 hz2 rfl (by decide) (.slice U ul cu) ul (u64V us) rfl HU5' ⟨b9, o9, none⟩ nl c9 (u64V nw) rfl (by omega) (fun jj u hj => by rw [Addr.add_lit]; exact Hc9.out jj u hj) (by simp [Value.oneCell']) (by omega) (by have := Hul.out; unfold maxLen; omega) (by have := Hul.out; omega) hsz5 _ rfl ?_
        intro gn cn w6 hown6 hg6 hli6 hlt6
        have hgn7 : Y.heap.size + 1 ≤ gn := (hown6.lt gn rfl).1
        have hF6 : Below (Y.heap.size + 1) w5 w6 := fr_grown (Below.refl _ w5) hg6 (fun q hq => (HU5'.lt q hq).1) hsz5
        have hG6 := kept_ne HG5.out hg6 (fun q hq hq2 => HGU4.out q hq (by rw [← Hul.out]; exact hq2))
        have hT7f := (hF6.block _ (Nat.lt_succ_self _)).trans HT7e.out
        obtain ⟨p0, p1, p2, p3, p4, p5, p6, p7, p8, p9, p10, p11, pf, pl⟩ := row12 hT7f
        have hT9 : (w6.setCell ⟨Y.heap.size, 11, none⟩ (.slice (some ⟨gn, 0, none⟩) (ul + nl) cn)).heap[Y.heap.size]? = some (.cells #[.int .i64 0, .int .i64 0, .int .u64 0, .int .i64 0, .int .u64 0, .int .i64 0, .int .i64 0, .bool false, .int .i64 0, .int .u64 0, .slice (some ⟨ga, 0, none⟩) (j + 1) ca, .slice (some ⟨gn, 0, none⟩) (ul + nl) cn] 41) := heap_setCell_same w6 Y.heap.size 11 _ _ (.slice (some ⟨gn, 0, none⟩) (ul + nl) cn) hT7f
        have hoz : ∀ q : Nat, q ≠ Y.heap.size → (w6.setCell ⟨Y.heap.size, 11, none⟩ (.slice (some ⟨gn, 0, none⟩) (ul + nl) cn)).heap[q]? = w6.heap[q]? := fun q hq => Below.heap_setCell w6 ⟨Y.heap.size, 11, none⟩ _ _ hq
        have hF9 : Below Y.heap.size V (w6.setCell ⟨Y.heap.size, 11, none⟩ (.slice (some ⟨gn, 0, none⟩) (ul + nl) cn)) := ((HBW.out.trans (HB5.out.mono (by have := block_lt HT8.out; omega))).trans (hF6.mono (Nat.le_succ _))).setCell (Nat.le_refl Y.heap.size) _
        have hGUn : ga ≠ gn := fun e => by
          subst e
          rcases hli6 with h9 | h9
          · exact HGU4.out ga rfl (by rw [← Hul.out]; exact h9)
          · have := HB5.out.size; omega
        have HQ := hide (show ∀ z, z = w6.setCell ⟨Y.heap.size, 11, none⟩ (.slice (some ⟨gn, 0, none⟩) (ul + nl) cn) → Below Y.heap.size V z ∧ z.heap[Y.heap.size]? = some (.cells #[.int .i64 0, .int .i64 0, .int .u64 0, .int .i64 0, .int .u64 0, .int .i64 0, .int .i64 0, .bool false, .int .i64 0, .int .u64 0, .slice (some ⟨ga, 0, none⟩) (j + 1) ca, .slice (some ⟨gn, 0, none⟩) (us ++ nw).length cn] 41) ∧
          z.ownsRow (Y.heap.size + 1) 36 1 (.slice (some ⟨ga, 0, none⟩) (j + 1) ca) (j + 1) (natL (gs ++ [Gt])) ∧ z.ownsRow (Y.heap.size + 1) 36 1 (.slice (some ⟨gn, 0, none⟩) (us ++ nw).length cn) (us ++ nw).length (u64V (us ++ nw)) from by
          rintro z rfl
          have hlen : (us ++ nw).length = ul + nl := by rw [List.length_append, Hul.out, Hnl.out]
          rw [hlen]
          refine ⟨hF9, hT9, ?_, ?_⟩
          · rw [natL_snoc]
            exact own_keepAt hG6 (fun q hq => hoz q (by have := (hG6.lt q hq).1; omega))
          · rw [show u64V (us ++ nw) = u64V us ++ u64V nw by simp]
            exact own_keepAt hown6 (fun q hq => hoz q (by have := (hown6.lt q hq).1; omega)))
        clear p0 p1 p2 p3 p4 p5 p6 p7 p8 p9 p10 hF6 hG6 hT7f hT9 hoz hF9 hown6 hg6 hli6 hi hz0 hz1 hz2 HU5'
        go_wp2
        obtain ⟨k1, k2, k3, k4⟩ := HQ.out _ rfl
        go_roundw
        case rel => exact ⟨j + 1, gs ++ [Gt], us ++ nw, some ⟨ga, 0, none⟩, ca, some ⟨gn, 0, none⟩, cn, by omega, by go_num, Hnx, by simp [Hgs.out], by simp; have := Hnl.out; omega, hide k1, k2, hide k3, hide k4, hide (fun q hq hq2 => hGUn ((Option.some.inj hq).trans (Option.some.inj hq2).symm))⟩
        case measure => simp [intOf]; omega
    · have hjn : j = n := by omega
      subst hjn
      have Hend := hide (show P = { refS 0 with gens := gs, words := us } by rw [Hgo.out, Hn.out, List.drop_length, snapRo])
      obtain ⟨p0, p1, p2, p3, p4, p5, p6, p7, p8, p9, p10, p11, pf, pl⟩ := row12 hT7
      obtain ⟨a0, a1, a2, a3, a4, a5, a6, a7, a8, a9, a10, a11, af, al⟩ := row12 hT6
      have Hbw := hide hbw
      clear hbw hT5 hT7
      go_wp2
      rw [Hend.out]
      have hresl : Tryz.f10.results = #[.cell 6 41] := by kernel_rfl
      refine bodyPost_ret (v := anV { refS 0 with gens := gs, words := us } (.slice G j cg) (.slice U us.length cu)) ?_ rfl ?_
      · simp only [results, hresl]
        go_simp
        simp [refS, rg0]
      · obtain ⟨s1, s2, s3, s4⟩ := set12_same wr (w.heap.size + 1) (.int .i64 0) (.int .i64 0) (.int .u64 0) (.int .i64 0) (.int .u64 0) (.int .i64 0) (.int .i64 0) (.bool false) (.int .i64 0) (.int .u64 0) (.slice G j cg) (.slice U us.length cu)
        exact rpost_up (a := { refS 0 with gens := gs, words := us }) H.out HYb.out (Nat.le_succ _) HZs.out (RTurns.of_below lab (HVB.out.trans HB.out)) (H.out.below Hbw.out) rfl rfl (by show Rd wr _ 1 gs.length (natL gs); rw [hgs]; exact Rd.of_own HG7.out) (Rd.of_own HU7.out) (fun q hq => .inr (by
          rcases hq with hq | hq
          · have := (HG7.out.lt q hq).1; omega
          · have := (HU7.out.lt q hq).1; omega)) s1 s2 s3 s4 (fun i hi => set12_other hi _ _ _ _ _ _ _ _ _ _ _ _)

end Go.Proofs.YtclgmikdjcjjdaaGreatDoor
