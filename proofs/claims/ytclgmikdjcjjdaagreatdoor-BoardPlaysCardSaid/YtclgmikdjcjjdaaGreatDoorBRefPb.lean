/-
  The walk of the reference's publish. Conditions: the document's blackboard in memory.
-/
import Derived.Test.YtclgmikdjcjjdaaGreatDoorBRefPv
namespace Go.Proofs.YtclgmikdjcjjdaaGreatDoor
open Go.RowKit

def wordsR (X : Rb) (t : Nat) : Int := match X.tp[t]? with | some p => p.2.1 | none => 0
def pubR (X : Rb) (task t : Nat) (ws : List Int) : Rb × An :=
  if X.mine task t = false then (X, refS 18) else if (ws.length : Int) ≠ wordsR X t then (X, refS 17)
  else ({ X.addRec t ws with subs := fun k => (X.subs k).map (pushR t (X.al t).length) }, { refS 0 with gen := (X.al t).length })


theorem info_words : (Tryz.prog.info? 39).map (fun i => (i.zero, i.size, i.bytes)) = some (some nilS, 1, 24) := by kernel_rfl
theorem und_words : Tryz.prog.underlying 65 = some (.slice 39) := by kernel_rfl
theorem news1 (w : World) (c0 : Value) (t : TypeId) : ∀ (j : Nat) (u : Value), [c0][j]? = some u → (w.alloc (.cells #[c0] t)).cell? ((⟨w.heap.size, 0, none⟩ : Addr).add j) = some u := by
  intro j u h
  have hn := heap_alloc_new w (.cells #[c0] t)
  generalize w.alloc (.cells #[c0] t) = X at hn ⊢
  match j, h with
  | 0, h => simp at h; subst h; simp [Addr.add, World.cell?, hn]
  | j + 1, h => simp at h
set_option maxRecDepth 100000 in
set_option maxHeartbeats 3200000 in
theorem rpub_any {base : Nat} {w : World} {lab : Nat → Option Lb} {m : RMem} {X : Rb} (h : IsRef base w lab m X) {task t : Nat} (c : Cl) (sv : Value) (A' : Option Addr) (n' cA' : Nat) (hk : task < X.tasks) (hct : c.topic = t) (ht : t < X.tp.length) (hws : n' = c.words.length) (hwsb : n' ≤ 100) (hrw : Rd w (.slice A' n' cA') 1 n' (u64V c.words)) (hD1 : 1 ≤ wordsR X t) (hGb : (X.al t).length ≤ 1000000) (hp : Pushable X) :
    Calls Tryz.prog 69 #[.pointer (some ⟨m.bb, 0, none⟩), .int .i64 task, clV c sv (.slice A' n' cA')] w fun e w' => RPost base w lab m (pubR X task t c.words) e w' := by
  obtain ⟨t0, t1, t2, t3, t4, t5, t6, t7, t8, t9, t10, t11, tf, tl⟩ := row12 h.blk
  obtain ⟨tb, to, tc, htv, ht1, ht2, htb, htc⟩ := h.topics.open_ (by omega)
  obtain ⟨-, hx1, -⟩ := flatT_at X.tp t ht
  have hdd : wordsR X t = X.tp[t].2.1 := by unfold wordsR; rw [List.getElem?_eq_getElem ht]
  rw [← hdd] at hx1
  have hcd := htc _ _ hx1
  rw [← Nat.add_assoc] at hcd
  rw [htv] at t1
  obtain ⟨kd, tp, sb, cp, rk, so, md, fl, fr, set, ws⟩ := c
  simp only at hct hws hrw ⊢
  subst hct
  unfold pubR
  obtain ⟨D, hD⟩ : ∃ D, D = wordsR X t := ⟨_, rfl⟩
  rw [← hD] at hcd hD1 ⊢
  rw [← hws]
  obtain ⟨N, hN⟩ : ∃ N, N = X.tp.length := ⟨_, rfl⟩
  have ht' := ht
  rw [← hN] at t1 ht' ht1
  have hN63 : N ≤ 9223372036854775807 := by unfold maxLen at ht2; omega
  obtain ⟨b5, o5, c5, hv5, h5a, h5b, h5l, h5c⟩ := h.rdMine.open_ (by omega)
  have q5 := h5c _ _ (range_at hk m.mineT)
  obtain ⟨b8, o8, c8, hv8, h8a, h8b, h8l, h8c⟩ := (h.rdMineT hk).open_ (by omega)
  have q8 := h8c t (.bool (X.mine task t)) (by simp [ht])
  rw [hv8] at q5
  rw [hv5] at t5
  obtain ⟨T, hT⟩ : ∃ T, T = X.tasks := ⟨_, rfl⟩
  have hk' := hk
  rw [← hT] at t5 hk' h5a
  rw [← hN] at q5 h8a
  have hT63 : T ≤ 9223372036854775807 := by unfold maxLen at h5b; omega
  obtain ⟨mn, hmn⟩ : ∃ x, x = X.mine task t := ⟨_, rfl⟩
  rw [← hmn] at q8 ⊢
  have hbl := block_lt h.blk
  have HF := hide (fun (w' : World) (hb : Below w.heap.size w w') => show w'.cell? ⟨m.bb, 1, none⟩ = some (.slice (some ⟨tb, to, none⟩) N tc) ∧ w'.cell? ⟨tb, to + t * 3 + 1, none⟩ = some (.int .i64 D) ∧ w'.cell? ⟨m.bb, 5, none⟩ = some (.slice (some ⟨b5, o5, none⟩) T c5) ∧ w'.cell? ⟨b5, o5 + task, none⟩ = some (.slice (some ⟨b8, o8, none⟩) N c8) ∧ w'.cell? ⟨b8, o8 + t, none⟩ = some (.bool mn) ∧ m.bb < w'.heap.size ∧ tb < w'.heap.size ∧ b5 < w'.heap.size ∧ b8 < w'.heap.size from
    ⟨(hb.cell (p := ⟨m.bb, 1, none⟩) hbl).trans t1, (hb.cell (p := ⟨tb, to + t * 3 + 1, none⟩) htb).trans hcd, (hb.cell (p := ⟨m.bb, 5, none⟩) hbl).trans t5, (hb.cell (p := ⟨b5, o5 + task, none⟩) h5l).trans q5, (hb.cell (p := ⟨b8, o8 + t, none⟩) h8l).trans q8, Nat.lt_of_lt_of_le hbl hb.size, Nat.lt_of_lt_of_le htb hb.size, Nat.lt_of_lt_of_le h5l hb.size, Nat.lt_of_lt_of_le h8l hb.size⟩)
  have H := hide h
  have HP := hide hp
  have HN := hide hN
  have HT := hide hT
  have HD := hide hD
  have Hws := hide hws
  have Hrw := hide hrw
  clear h hp hrw hdd htc hx1 htv hN hT hws hv5 hv8 h5c h8c hD hmn t0 t1 t2 t3 t4 t5 t6 t7 t8 t9 t10 t11 tf tl hcd q5 q8 hbl htb h5l h8l
  cases mn with
  | false =>
    rw [if_pos rfl]
    go_enter Tryz.func69, Tryz.ntmps69
    go_wp2_with fail
    obtain ⟨Z, hZ⟩ : ∃ Z, Z = (w.alloc (clO ⟨kd, t, sb, cp, rk, so, md, fl, fr, set, ws⟩ sv (.slice A' n' cA'))).alloc anZ := ⟨_, rfl⟩
    have hZb : Below w.heap.size w Z := by rw [hZ]; exact below_new2 w _ _
    have hZ5 : Z.heap[w.heap.size]? = some (clO ⟨kd, t, sb, cp, rk, so, md, fl, fr, set, ws⟩ sv (.slice A' n' cA')) := by rw [hZ]; exact (heap_two w _ _).1
    have hZ6 : Z.heap[w.heap.size + 1]? = some anZ := by rw [hZ]; exact (heap_two w _ _).2
    rw [← hZ]
    have HZ := hide hZ
    clear hZ
    obtain ⟨t0, t1, t2, t3, t4, t5, t6, t7, t8, t9, t10, tf, tl⟩ := row11 hZ5
    obtain ⟨a0, a1, a2, a3, a4, a5, a6, a7, a8, a9, a10, a11, af, al⟩ := row12 hZ6
    obtain ⟨f1, f2, f3, f4, f5, f6, f7, f8, f9⟩ := HF.out _ hZb
    go_quiet (fail)
    go_wp2
    have hresl : Tryz.f69.results = #[.cell 6 41] := by kernel_rfl
    refine bodyPost_ret (v := anV (refS 18) nilS nilS) ?_ rfl ?_
    · simp only [results, hresl]
      go_simp
      simp [refS, rg0]
    · exact rpost_plain H.out (set12_below (below_drewN hZb _) (Nat.le_succ _) _ _ _ _ _ _ _ _ _ _ _ _) rfl rfl
  | true =>
    rw [if_neg (by simp)]
    by_cases hw : (n' : Int) = D
    · rw [if_neg (by simpa using hw)]
      have hw' : ((n' : Int) != D) = false := by simpa using hw
      have hn1 : 1 ≤ n' := by omega
      go_enter Tryz.func69, Tryz.ntmps69
      go_wp2_with fail
      obtain ⟨Z, hZ⟩ : ∃ Z, Z = (w.alloc (clO ⟨kd, t, sb, cp, rk, so, md, fl, fr, set, ws⟩ sv (.slice A' n' cA'))).alloc anZ := ⟨_, rfl⟩
      have hZb : Below w.heap.size w Z := by rw [hZ]; exact below_new2 w _ _
      have hZ5 : Z.heap[w.heap.size]? = some (clO ⟨kd, t, sb, cp, rk, so, md, fl, fr, set, ws⟩ sv (.slice A' n' cA')) := by rw [hZ]; exact (heap_two w _ _).1
      have hZ6 : Z.heap[w.heap.size + 1]? = some anZ := by rw [hZ]; exact (heap_two w _ _).2
      rw [← hZ]
      have HZ := hide hZ
      clear hZ
      obtain ⟨t0, t1, t2, t3, t4, t5, t6, t7, t8, t9, t10, tf, tl⟩ := row11 hZ5
      obtain ⟨a0, a1, a2, a3, a4, a5, a6, a7, a8, a9, a10, a11, af, al⟩ := row12 hZ6
      obtain ⟨f1, f2, f3, f4, f5, f6, f7, f8, f9⟩ := HF.out _ hZb
      go_quiet (fail)
      generalize hV : Z.drewN _ = V
      have hVB : Below Z.heap.size Z V := by rw [← hV]; exact below_drewN (Below.refl _ Z) _
      clear hV f1 f2 f3 f4 f5 f6 f7 f8 f9
      obtain ⟨f1, f2, f3, f4, f5, f6, f7, f8, f9⟩ := HF.out _ (hZb.trans (hVB.mono hZb.size))
      have HV6 := hide ((hVB.block _ al).trans hZ6)
      obtain ⟨t0, t1, t2, t3, t4, t5, t6, t7, t8, t9, t10, tf, tl⟩ := row11 ((hVB.block _ tl).trans hZ5)
      go_wp2_with fail
      go_quiet (fail)
      generalize hU : V.drewN _ = U
      have hUB : Below V.heap.size V U := by rw [← hU]; exact below_drewN (Below.refl _ V) _
      have hUw : Below w.heap.size w U := (hZb.trans (hVB.mono hZb.size)).trans (hUB.mono (Nat.le_trans hZb.size hVB.size))
      have u1 := (hUB.cell (p := ⟨w.heap.size, 1, none⟩) tl).trans t1
      have u10 := (hUB.cell (p := ⟨w.heap.size, 10, none⟩) tl).trans t10
      have ul := Nat.lt_of_lt_of_le tl hUB.size
      obtain ⟨ab, ao, ac, hav, -, -, hab, hac⟩ := (Hrw.out.below hUw).open_ (by omega)
      cases hav
      obtain ⟨i0, hi, hz0, hz1, hz2⟩ := info_parts info_u64q
      have Hac := hide hac
      have HUw := hide hUw
      have HU6 := hide ((hUB.block _ (block_lt HV6.out)).trans HV6.out)
      clear hU hac hUw f1 f2 f3 f4 f5 f6 f7 f8 f9 t0 t1 t2 t3 t4 t5 t6 t7 t8 t9 t10 tf
      go_wp2_with (at_builtin; generalize hGG : wpList _ _ _ _ _ _ = GG)
      subst hGG
      refine wpList_append_lies _ rfl (.tmp 37) (.tmp 39) 39 rfl U.heap.size 36 i0 _ 1 8 und_u64q hi hz0 hz1 hz2 rfl (by decide) nilS 0 [] rfl (World.ownsRow_nil _ _ _ _) ⟨ab, ao, none⟩ n' cA' (u64V ws) rfl (by have := Hws.out; simp; omega) (fun j u hj => by rw [Addr.add_lit]; exact Hac.out j u hj) (by simp [Value.oneCell']) (by omega) (by unfold maxLen; omega) (by omega) (Nat.le_refl _) _ rfl ?_
      intro g cap w2 hown hgrow hat hlt2
      have hbU : Below U.heap.size U w2 := ⟨hgrow.os, hgrow.tape, hgrow.output, hgrow.size, fun i hi => hgrow.block i hi (by simp [Value.ownBlock])⟩
      have HbU := hide hbU
      have Hbw := hide (HUw.out.trans (hbU.mono HUw.out.size))
      have HIV := hide (H.out.below Hbw.out)
      have hW6 := (hbU.block _ (block_lt HU6.out)).trans HU6.out
      have v1 := (hbU.cell (p := ⟨w.heap.size, 1, none⟩) ul).trans u1
      have vl := Nat.lt_of_lt_of_le ul hbU.size
      obtain ⟨z0, z1, z2, z3, z4, z5, z6, z7, z8, z9, z10, z11, zf, zl⟩ := row12 HIV.out.blk
      obtain ⟨br, orr, cr, hvr, hra, hrb, hrl, hrc⟩ := HIV.out.rdRecs.open_ (by omega)
      have qr := hrc _ _ (range_at ht m.recT)
      rw [hvr, ← HN.out] at z4
      rw [← HN.out] at hra
      obtain ⟨A, cA, hAv, hAa, hAb, -⟩ := (HIV.out.rdRec ht).shape
      obtain ⟨n, hn⟩ : ∃ n, n = (X.al t).length := ⟨_, rfl⟩
      rw [hAv, ← hn] at qr
      rw [← hn] at hAv hAa
      have Hhown := hide hown
      have Hvr := hide hvr
      have Hn := hide hn
      have HAv := hide hAv
      have HW6 := hide hW6
      clear hown hgrow hat hbU hW6 hvr hrc hAv hn z0 z1 z2 z3 z5 z6 z7 z8 z9 z10 z11 zf u1 u10 ul hi hz0 hz1 hz2
      have hAv := HAv.out
      have hS : refR m X (.rec_ t) = some ⟨false, 39, 1, m.recT t, (X.al t).length, (List.range (X.al t).length).map (m.word t)⟩ := by simp [refR, ht]
      have hrowV := (HIV.out.rows.row _ _ hS).1
      unfold RowAt at hrowV
      rw [if_neg (by simp), hAv, ← Hn.out] at hrowV
      have hlS := (HIV.out.rows.row _ _ hS).2
      simp only [hAv] at hlS
      have hl6 : lab br = some .recs := (HIV.out.rows.row .recs _ rfl).2 br (by rw [Hvr.out]; rfl)
      have hlt6 := (H.out.rows.lt _ _ hl6).2
      have hb6 : m.bb ≠ br := fun e => by have := H.out.lbb; rw [e, hl6] at this; cases this
      have hne : ∀ q, (Value.slice A n cA).ownBlock = some q → q ≠ br ∧ q ≠ m.bb ∧ q < w.heap.size := fun q hq =>
        ⟨fun e => (by have := hlS q hq; rw [e, hl6] at this; cases this), fun e => (by have := hlS q hq; rw [e, H.out.lbb] at this; cases this), (H.out.rows.lt _ _ (hlS q hq)).2⟩
      have hrow6 := (HIV.out.rows.row .recs _ rfl).1
      unfold RowAt at hrow6
      rw [if_neg (by simp)] at hrow6
      have hcur : ∃ cur, w2.heap[br]? = some (.cells cur 65 (0, 0)) := by
        rcases hrow6.2 with ⟨h0, -⟩ | ⟨g', cap', cur, hv, -, hg, -⟩
        · rw [Hvr.out] at h0; cases h0
        · simp only [Hvr.out] at hv
          cases hv
          exact ⟨cur, hg⟩
      obtain ⟨cur6, hcur6⟩ := hcur
      have hn6 : n ≤ 1000000 := by rw [Hn.out]; exact hGb
      have hbase : base ≤ w.heap.size := by have := H.out.rows.lt _ _ H.out.lbb; omega
      have hbbl := block_lt HIV.out.blk
      have HrowV := hide hrowV
      have Hne := hide hne
      have Hcur6 := hide hcur6
      have Hsz := hide Hbw.out.size
      have hw1 := block_lt HW6.out
      clear hAv hS hrowV hlS hrow6 hne hcur6
      obtain ⟨i1, hi, hz0, hz1, hz2⟩ := info_parts info_words
      have HK : ∀ w' : World, (∀ i, i ≠ br → (Value.slice A n cA).ownBlock ≠ some i → i < w2.heap.size → w'.heap[i]? = w2.heap[i]?) → w'.cell? ⟨m.bb, 4, none⟩ = some (.slice (some ⟨br, orr, none⟩) N cr) ∧ w'.cell? ⟨w.heap.size, 1, none⟩ = some (.int .i64 t) := fun w' hw' =>
        have hb' := hw' m.bb hb6 (fun e => (Hne.out _ e).2.1 rfl) hbbl
        have hl' := hw' w.heap.size (by omega) (fun e => by have := (Hne.out _ e).2.2; omega) vl
        ⟨(World.cell?_of_block (a := ⟨m.bb, 4, none⟩) hb').trans z4, (World.cell?_of_block (a := ⟨w.heap.size, 1, none⟩) hl').trans v1⟩
      have hK1 := HK w2.drew (fun _ _ _ _ => rfl)
      have hK2 := HK (w2.drew.alloc (.cells #[.slice (some ⟨g, 0, none⟩) n' cap] 39)) (fun i _ _ hi => (below_new w2.drew _).block i hi)
      have hK3 := HK (w2.alloc (.cells #[.slice (some ⟨g, 0, none⟩) n' cap] 39)).drew (fun i _ _ hi => (below_new w2 _).block i hi)
      have yrd : w2.drew.cell? ⟨br, orr + t, none⟩ = some (.slice A n cA) := qr
      have yra : (w2.drew.alloc (.cells #[.slice (some ⟨g, 0, none⟩) n' cap] 39)).cell? ⟨br, orr + t, none⟩ = some (.slice A n cA) := (World.cell?_alloc_lt w2.drew _ ⟨br, orr + t, none⟩ hrl).trans qr
      go_wp2_with fail
      refine wp_region_noPanic ?_
      refine wp_region_held_drew (S := (fun w' => w'.cell? ⟨m.bb, 4, none⟩ = some (.slice (some ⟨br, orr, none⟩) N cr) ∧ w'.cell? ⟨w.heap.size, 1, none⟩ = some (.int .i64 t))) (by kernel_rfl) (by (try dsimp only); (first | with_reducible assumption | with_reducible exact hK1 | with_reducible exact hK2 | with_reducible exact hK3)) (fun hHeld0 => ?_)
      refine held_take (i := 0) (v := ?_) (by rfl) (by kernel_rfl) (by kernel_rfl) (by kernel_rfl) (fun _ _ _ h => h) (Or.inl ⟨by rfl, ?_⟩) hHeld0 ?_
      rotate_left
      · (intro w hSw; (try dsimp only at hSw); go_simp; try with_reducible rfl)
      try simp only [Act.put, List.setIfInBounds_toArray, List.set_cons_zero, List.set_cons_succ]
      refine held_take (i := 1) (v := ?_) (by rfl) (by kernel_rfl) (by kernel_rfl) (by kernel_rfl) (fun _ _ _ h => h) (Or.inl ⟨by rfl, ?_⟩) hHeld0 ?_
      rotate_left
      · (intro w hSw; (try dsimp only at hSw); go_simp; try with_reducible rfl)
      try simp only [Act.put, List.setIfInBounds_toArray, List.set_cons_zero, List.set_cons_succ]
      refine held_take (i := 2) (v := ?_) (by rfl) (by kernel_rfl) (by kernel_rfl) (by kernel_rfl) (fun _ _ _ h => h) (Or.inl ⟨by rfl, ?_⟩) hHeld0 ?_
      rotate_left
      · (intro w hSw; (try dsimp only at hSw); go_simp; try with_reducible rfl)
      try simp only [Act.put, List.setIfInBounds_toArray, List.set_cons_zero, List.set_cons_succ]
      refine held_take (i := 3) (v := ?_) (by rfl) (by kernel_rfl) (by kernel_rfl) (by kernel_rfl) (fun _ _ _ h => h) (Or.inl ⟨by rfl, ?_⟩) hHeld0 ?_
      rotate_left
      · (intro w hSw; (try dsimp only at hSw); go_simp; try with_reducible rfl)
      try simp only [Act.put, List.setIfInBounds_toArray, List.set_cons_zero, List.set_cons_succ]
      refine held_take (i := 4) (v := ?_) (by rfl) (by kernel_rfl) (by kernel_rfl) (by kernel_rfl) (fun _ _ _ h => h) (Or.inl ⟨by rfl, ?_⟩) hHeld0 ?_
      rotate_left
      · (intro w hSw; (try dsimp only at hSw); go_simp; try with_reducible rfl)
      try simp only [Act.put, List.setIfInBounds_toArray, List.set_cons_zero, List.set_cons_succ]
      refine held_take (i := 5) (v := ?_) (by rfl) (by kernel_rfl) (by kernel_rfl) (by kernel_rfl) (fun _ _ _ h => h) (Or.inl ⟨by rfl, ?_⟩) hHeld0 ?_
      rotate_left
      · (intro w hSw; (try dsimp only at hSw); go_simp; try with_reducible rfl)
      try simp only [Act.put, List.setIfInBounds_toArray, List.set_cons_zero, List.set_cons_succ]
      refine held_take (i := 6) (v := ?_) (by rfl) (by kernel_rfl) (by kernel_rfl) (by kernel_rfl) (fun _ _ _ h => h) (Or.inl ⟨by rfl, ?_⟩) hHeld0 ?_
      rotate_left
      · (intro w hSw; (try dsimp only at hSw); go_simp; try with_reducible rfl)
      try simp only [Act.put, List.setIfInBounds_toArray, List.set_cons_zero, List.set_cons_succ]
      refine held_take (i := 7) (v := ?_) (by rfl) (by kernel_rfl) (by kernel_rfl) (by kernel_rfl) (fun _ _ _ h => h) (Or.inl ⟨by rfl, ?_⟩) hHeld0 ?_
      rotate_left
      · (intro w hSw; (try dsimp only at hSw); go_simp; try with_reducible rfl)
      try simp only [Act.put, List.setIfInBounds_toArray, List.set_cons_zero, List.set_cons_succ]
      refine held_take (i := 8) (v := ?_) (by rfl) (by kernel_rfl) (by kernel_rfl) (by kernel_rfl) (fun _ _ _ h => h) (Or.inl ⟨by rfl, ?_⟩) hHeld0 ?_
      rotate_left
      · (intro w hSw; (try dsimp only at hSw); go_simp; try with_reducible rfl)
      try simp only [Act.put, List.setIfInBounds_toArray, List.set_cons_zero, List.set_cons_succ]
      refine held_take (i := 9) (v := ?_) (by rfl) (by kernel_rfl) (by kernel_rfl) (by kernel_rfl) (fun _ _ _ h => h) (Or.inl ⟨by rfl, ?_⟩) hHeld0 ?_
      rotate_left
      · (intro w hSw; (try dsimp only at hSw); go_simp; try with_reducible rfl)
      try simp only [Act.put, List.setIfInBounds_toArray, List.set_cons_zero, List.set_cons_succ]
      refine held_take (i := 10) (v := ?_) (by rfl) (by kernel_rfl) (by kernel_rfl) (by kernel_rfl) (fun _ _ _ h => h) (Or.inl ⟨by rfl, ?_⟩) hHeld0 ?_
      rotate_left
      · (intro w hSw; (try dsimp only at hSw); go_simp; try with_reducible rfl)
      try simp only [Act.put, List.setIfInBounds_toArray, List.set_cons_zero, List.set_cons_succ]
      refine held_take (i := 11) (v := ?_) (by rfl) (by kernel_rfl) (by kernel_rfl) (by kernel_rfl) (fun _ _ _ h => h) (Or.inl ⟨by rfl, ?_⟩) hHeld0 ?_
      rotate_left
      · (intro w hSw; (try dsimp only at hSw); go_simp; try with_reducible rfl)
      try simp only [Act.put, List.setIfInBounds_toArray, List.set_cons_zero, List.set_cons_succ]
      refine held_take (i := 12) (v := ?_) (by rfl) (by kernel_rfl) (by kernel_rfl) (by kernel_rfl) (fun _ _ _ h => h) (Or.inl ⟨by rfl, ?_⟩) hHeld0 ?_
      rotate_left
      · (intro w hSw; (try dsimp only at hSw); go_simp; try with_reducible rfl)
      try simp only [Act.put, List.setIfInBounds_toArray, List.set_cons_zero, List.set_cons_succ]
      refine held_take (i := 14) (v := ?_) (by rfl) (by kernel_rfl) (by kernel_rfl) (by kernel_rfl) (fun _ _ _ h => h) (Or.inl ⟨by rfl, ?_⟩) hHeld0 ?_
      rotate_left
      · (intro w hSw; (try dsimp only at hSw); go_simp; try with_reducible rfl)
      try simp only [Act.put, List.setIfInBounds_toArray, List.set_cons_zero, List.set_cons_succ]
      refine wpAnyH_ready (rs := [13, 15]) (by kernel_rfl) (by simp) ?_
      refine held_cons (by rfl) (fun K hK => ?_) ?_
      · go_simp
        refine hK.out _ _ (by (try dsimp only); (first | with_reducible assumption | with_reducible exact hK1 | with_reducible exact hK2 | with_reducible exact hK3)) (fun hHeld1 => ?_)
        clear hK K hHeld0
        try simp only [Act.put, List.setIfInBounds_toArray, List.set_cons_zero, List.set_cons_succ]
        refine wpAnyH_ready (rs := [15]) (by kernel_rfl) (by simp) ?_
        refine held_cons (by rfl) (fun K hK => ?_) ?_
        · go_simp
          refine hK.out _ _ (by (try dsimp only); (first | with_reducible assumption | with_reducible exact hK1 | with_reducible exact hK2 | with_reducible exact hK3)) (fun hHeld2 => ?_)
          clear hK K hHeld1
          try simp only [Act.put, List.setIfInBounds_toArray, List.set_cons_zero, List.set_cons_succ]
          refine wpAnyH_ready (rs := [16]) (by kernel_rfl) (by simp) ?_
          refine held_cons (by rfl) (fun K hK => ?_) ?_
          · (first | (refine step_append_lies _ rfl (.tmp 54) (.tmp 56) 65 rfl base 39 i1 _ 1 24 und_words hi hz0 hz1 hz2 rfl (by decide) (.slice A n cA) n ((List.range n).map (m.word t)) rfl (HrowV.out.drew.alloc _) ⟨w2.heap.size, 0, none⟩ 1 1 [.slice (some ⟨g, 0, none⟩) n' cap] rfl rfl (news1 _ _ _) (by simp [Value.oneCell']) (by omega) (by unfold maxLen at *; omega) (by omega) (by have := Hsz.out; simp; omega) (w2.heap.size + 1) (by simp) ?_; intro g4 c4' w4 hown4 hg4 hli4 hlt4; have hsub4 : w4.heap[br]? = some (.cells cur6 65 (0, 0)) := (hg4.block br (by simp; omega) (fun e => (Hne.out _ e.symm).1 rfl)).trans (alloc_was _ _ _ _ Hcur6.out); have r4 : w4.cell? ⟨br, orr + t, none⟩ = some (.slice A n cA) := (World.cell?_of_block (a := ⟨br, orr + t, none⟩) (hsub4.trans Hcur6.out.symm)).trans qr; have f9 := frozen_of hsub4 (orr + t); have hK4 := HK w4 (fun i h1 h2 h3 => (hg4.block i (by simp; omega) (fun e => h2 e.symm)).trans ((below_new w2.drew _).block i h3)); have hK5 := HK (w4.setCell ⟨br, orr + t, none⟩ (.slice (some ⟨g4, 0, none⟩) (n + 1) c4')) (fun i h1 h2 h3 => (Below.heap_setCell w4 ⟨br, orr + t, none⟩ _ _ h1).trans ((hg4.block i (by simp; omega) (fun e => h2 e.symm)).trans ((below_new w2.drew _).block i h3)))))
            refine hK.out _ _ (by (try dsimp only); (first | with_reducible assumption | with_reducible exact hK1 | with_reducible exact hK2 | with_reducible exact hK3)) (fun hHeld3 => ?_)
            clear hK K hHeld2
            try simp only [Act.put, List.setIfInBounds_toArray, List.set_cons_zero, List.set_cons_succ]
            refine held_take (i := 17) (v := ?_) (by rfl) (by kernel_rfl) (by kernel_rfl) (by kernel_rfl) (fun _ _ _ h => h) (Or.inl ⟨by rfl, ?_⟩) hHeld3 ?_
            rotate_left
            · (intro w hSw; (try dsimp only at hSw); go_simp; try with_reducible rfl)
            try simp only [Act.put, List.setIfInBounds_toArray, List.set_cons_zero, List.set_cons_succ]
            refine wpAnyH_ready (rs := [18]) (by kernel_rfl) (by simp) ?_
            refine held_cons (by rfl) (fun K hK => ?_) ?_
            · go_simp
              refine hK.out _ _ (by (try dsimp only); (first | with_reducible assumption | with_reducible exact hK1 | with_reducible exact hK2 | with_reducible exact hK3)) (fun hHeld4 => ?_)
              clear hK K hHeld3
              try simp only [Act.put, List.setIfInBounds_toArray, List.set_cons_zero, List.set_cons_succ]
              refine wpAnyH_done (by kernel_rfl) ?_ _
              refine NoPanic.normal ?_
              clear hHeld4
              have hwv : w2.ownsRow U.heap.size 36 1 (.slice (some ⟨g, 0, none⟩) n' cap) ws.length (u64V ws) := by have h := Hhown.out; rw [Nat.zero_add, List.nil_append] at h; rw [← Hws.out]; exact h
              obtain ⟨labN, hIn, hTn⟩ := (H.out.below HUw.out).addRec (ws := ws) ht Hn.out HbU.out hwv ((Below.refl _ w2).drew.trans ((below_new w2.drew (.cells #[.slice (some ⟨g, 0, none⟩) n' cap] 39)).mono (by simp))) (by rw [HAv.out]; exact hg4) hown4 (by rw [HAv.out]; simpa using hli4) (by rw [← HN.out]; rw [HN.out]; exact Hvr.out)
              have hW6 : (w4.setCell ⟨br, orr + t, none⟩ (.slice (some ⟨g4, 0, none⟩) (n + 1) c4')).heap[w.heap.size + 1]? = some anZ := (Below.heap_setCell w4 ⟨br, orr + t, none⟩ _ _ (show w.heap.size + 1 ≠ br by omega)).trans ((hg4.block _ (by have := block_lt HW6.out; simp; omega) (fun e => by have := (Hne.out _ e.symm).2.2; omega)).trans ((below_new w2.drew _).block _ (block_lt HW6.out) |>.trans HW6.out))
              obtain ⟨-, x1⟩ := hK5
              revert hIn hTn hW6 x1
              generalize w4.setCell ⟨br, orr + t, none⟩ (.slice (some ⟨g4, 0, none⟩) (n + 1) c4') = W
              intro hIn hTn hW6 x1
              have HIn := hide hIn
              have HTn := hide hTn
              have hxa := block_lt hW6
              have hxl : w.heap.size < W.heap.size := by omega
              have hlN : labN (w.heap.size + 1) = none := by
                cases hl : labN (w.heap.size + 1) with
                | none => rfl
                | some L => rcases HTn.out.lab _ L hl with h1 | h1
                            · have := (H.out.rows.lt _ L h1).2; omega
                            · have := block_lt HU6.out; omega
              have HlN := hide hlN
              have HW7 := hide hW6
              clear hK1 hK2 hK3 hK4 hIn hTn hW6 hlN yrd yra HK r4 f9 hsub4 hown4 hg4 hli4 hlt4 hi hz0 hz1 hz2 hwv
              go_wp2_with fail
              refine (rgen_any (g := n) HIn.out ht (by simp [Rb.addRec, ← Hn.out]) hn6).mono ?_
              rintro e w9 ⟨rfl, hb9⟩
              have HI9 := hide (HIn.out.below hb9)
              have x9 := (hb9.cell (p := ⟨w.heap.size, 1, none⟩) hxl).trans x1
              have h9l := hb9.size
              have HW9 := hide ((hb9.block _ hxa).trans HW7.out)
              have HT9 := hide (HTn.out.trans (RTurns.of_below labN hb9))
              clear hb9 HTn HW7
              go_wp2_with fail
              refine (rpush_any HI9.out ⟨HP.out.tasks, HP.out.subs, HP.out.fits, HP.out.out⟩ t n).mono ?_
              rintro e wA ⟨rfl, m', lab', hIA, hbb, htv, hTu⟩
              obtain ⟨b0, b1, b2, b3, b4, b5, b6, b7, b8, b9, b10, b11, bf, bl⟩ := row12 ((hTu.block _ (block_lt HW9.out) HlN.out).trans HW9.out)
              have HIA := hide hIA
              have HTA := hide (HT9.out.trans hTu)
              have Hmm := hide (show m'.bb = m.bb ∧ m'.tv = m.tv from ⟨hbb, htv⟩)
              clear hIA hbb htv hTu
              go_wp2
              have hresl : Tryz.f69.results = #[.cell 6 41] := by kernel_rfl
              refine bodyPost_ret (v := anV { refS 0 with gen := n } nilS nilS) ?_ rfl ?_
              · simp only [results, hresl]
                go_simp
                simp [refS, rg0]
              · rw [← Hn.out]
                obtain ⟨s1, s2, s3, s4⟩ := set12_same wA (w.heap.size + 1) (.int .i64 0) (.int .i64 0) (.int .u64 n) (.int .i64 0) (.int .u64 0) (.int .i64 0) (.int .i64 0) (.bool false) (.int .i64 0) (.int .u64 0) nilS nilS
                exact rpost_up (a := { refS 0 with gen := n }) H.out HUw.out (Nat.le_succ _) (block_lt HU6.out) HTA.out HIA.out Hmm.out.1 Hmm.out.2 (rd_nil wA) (rd_nil wA) (fun q hq => by simp [Value.ownBlock] at hq) s1 s2 s3 s4 (fun i hi => set12_other hi _ _ _ _ _ _ _ _ _ _ _ _)
            exact AllReadyH.nil
          exact AllReadyH.nil
        exact AllReadyH.nil
      refine held_cons (by rfl) (fun K hK => ?_) ?_
      · go_simp
        refine hK.out _ _ (by (try dsimp only); (first | with_reducible assumption | with_reducible exact hK1 | with_reducible exact hK2 | with_reducible exact hK3)) (fun hHeld5 => ?_)
        clear hK K hHeld0
        try simp only [Act.put, List.setIfInBounds_toArray, List.set_cons_zero, List.set_cons_succ]
        refine wpAnyH_ready (rs := [13]) (by kernel_rfl) (by simp) ?_
        refine held_cons (by rfl) (fun K hK => ?_) ?_
        · go_simp
          refine hK.out _ _ (by (try dsimp only); (first | with_reducible assumption | with_reducible exact hK1 | with_reducible exact hK2 | with_reducible exact hK3)) (fun hHeld6 => ?_)
          clear hK K hHeld5
          try simp only [Act.put, List.setIfInBounds_toArray, List.set_cons_zero, List.set_cons_succ]
          refine wpAnyH_ready (rs := [16]) (by kernel_rfl) (by simp) ?_
          refine held_cons (by rfl) (fun K hK => ?_) ?_
          · (first | (refine step_append_lies _ rfl (.tmp 54) (.tmp 56) 65 rfl base 39 i1 _ 1 24 und_words hi hz0 hz1 hz2 rfl (by decide) (.slice A n cA) n ((List.range n).map (m.word t)) rfl (HrowV.out.drew.alloc _) ⟨w2.heap.size, 0, none⟩ 1 1 [.slice (some ⟨g, 0, none⟩) n' cap] rfl rfl (news1 _ _ _) (by simp [Value.oneCell']) (by omega) (by unfold maxLen at *; omega) (by omega) (by have := Hsz.out; simp; omega) (w2.heap.size + 1) (by simp) ?_; intro g4 c4' w4 hown4 hg4 hli4 hlt4; have hsub4 : w4.heap[br]? = some (.cells cur6 65 (0, 0)) := (hg4.block br (by simp; omega) (fun e => (Hne.out _ e.symm).1 rfl)).trans (alloc_was _ _ _ _ Hcur6.out); have r4 : w4.cell? ⟨br, orr + t, none⟩ = some (.slice A n cA) := (World.cell?_of_block (a := ⟨br, orr + t, none⟩) (hsub4.trans Hcur6.out.symm)).trans qr; have f9 := frozen_of hsub4 (orr + t); have hK4 := HK w4 (fun i h1 h2 h3 => (hg4.block i (by simp; omega) (fun e => h2 e.symm)).trans ((below_new w2.drew _).block i h3)); have hK5 := HK (w4.setCell ⟨br, orr + t, none⟩ (.slice (some ⟨g4, 0, none⟩) (n + 1) c4')) (fun i h1 h2 h3 => (Below.heap_setCell w4 ⟨br, orr + t, none⟩ _ _ h1).trans ((hg4.block i (by simp; omega) (fun e => h2 e.symm)).trans ((below_new w2.drew _).block i h3)))))
            refine hK.out _ _ (by (try dsimp only); (first | with_reducible assumption | with_reducible exact hK1 | with_reducible exact hK2 | with_reducible exact hK3)) (fun hHeld7 => ?_)
            clear hK K hHeld6
            try simp only [Act.put, List.setIfInBounds_toArray, List.set_cons_zero, List.set_cons_succ]
            refine held_take (i := 17) (v := ?_) (by rfl) (by kernel_rfl) (by kernel_rfl) (by kernel_rfl) (fun _ _ _ h => h) (Or.inl ⟨by rfl, ?_⟩) hHeld7 ?_
            rotate_left
            · (intro w hSw; (try dsimp only at hSw); go_simp; try with_reducible rfl)
            try simp only [Act.put, List.setIfInBounds_toArray, List.set_cons_zero, List.set_cons_succ]
            refine wpAnyH_ready (rs := [18]) (by kernel_rfl) (by simp) ?_
            refine held_cons (by rfl) (fun K hK => ?_) ?_
            · go_simp
              refine hK.out _ _ (by (try dsimp only); (first | with_reducible assumption | with_reducible exact hK1 | with_reducible exact hK2 | with_reducible exact hK3)) (fun hHeld8 => ?_)
              clear hK K hHeld7
              try simp only [Act.put, List.setIfInBounds_toArray, List.set_cons_zero, List.set_cons_succ]
              refine wpAnyH_done (by kernel_rfl) ?_ _
              refine NoPanic.normal ?_
              clear hHeld8
              have hwv : w2.ownsRow U.heap.size 36 1 (.slice (some ⟨g, 0, none⟩) n' cap) ws.length (u64V ws) := by have h := Hhown.out; rw [Nat.zero_add, List.nil_append] at h; rw [← Hws.out]; exact h
              obtain ⟨labN, hIn, hTn⟩ := (H.out.below HUw.out).addRec (ws := ws) ht Hn.out HbU.out hwv ((Below.refl _ w2).drew.trans ((below_new w2.drew (.cells #[.slice (some ⟨g, 0, none⟩) n' cap] 39)).mono (by simp))) (by rw [HAv.out]; exact hg4) hown4 (by rw [HAv.out]; simpa using hli4) (by rw [← HN.out]; rw [HN.out]; exact Hvr.out)
              have hW6 : (w4.setCell ⟨br, orr + t, none⟩ (.slice (some ⟨g4, 0, none⟩) (n + 1) c4')).heap[w.heap.size + 1]? = some anZ := (Below.heap_setCell w4 ⟨br, orr + t, none⟩ _ _ (show w.heap.size + 1 ≠ br by omega)).trans ((hg4.block _ (by have := block_lt HW6.out; simp; omega) (fun e => by have := (Hne.out _ e.symm).2.2; omega)).trans ((below_new w2.drew _).block _ (block_lt HW6.out) |>.trans HW6.out))
              obtain ⟨-, x1⟩ := hK5
              revert hIn hTn hW6 x1
              generalize w4.setCell ⟨br, orr + t, none⟩ (.slice (some ⟨g4, 0, none⟩) (n + 1) c4') = W
              intro hIn hTn hW6 x1
              have HIn := hide hIn
              have HTn := hide hTn
              have hxa := block_lt hW6
              have hxl : w.heap.size < W.heap.size := by omega
              have hlN : labN (w.heap.size + 1) = none := by
                cases hl : labN (w.heap.size + 1) with
                | none => rfl
                | some L => rcases HTn.out.lab _ L hl with h1 | h1
                            · have := (H.out.rows.lt _ L h1).2; omega
                            · have := block_lt HU6.out; omega
              have HlN := hide hlN
              have HW7 := hide hW6
              clear hK1 hK2 hK3 hK4 hIn hTn hW6 hlN yrd yra HK r4 f9 hsub4 hown4 hg4 hli4 hlt4 hi hz0 hz1 hz2 hwv
              go_wp2_with fail
              refine (rgen_any (g := n) HIn.out ht (by simp [Rb.addRec, ← Hn.out]) hn6).mono ?_
              rintro e w9 ⟨rfl, hb9⟩
              have HI9 := hide (HIn.out.below hb9)
              have x9 := (hb9.cell (p := ⟨w.heap.size, 1, none⟩) hxl).trans x1
              have h9l := hb9.size
              have HW9 := hide ((hb9.block _ hxa).trans HW7.out)
              have HT9 := hide (HTn.out.trans (RTurns.of_below labN hb9))
              clear hb9 HTn HW7
              go_wp2_with fail
              refine (rpush_any HI9.out ⟨HP.out.tasks, HP.out.subs, HP.out.fits, HP.out.out⟩ t n).mono ?_
              rintro e wA ⟨rfl, m', lab', hIA, hbb, htv, hTu⟩
              obtain ⟨b0, b1, b2, b3, b4, b5, b6, b7, b8, b9, b10, b11, bf, bl⟩ := row12 ((hTu.block _ (block_lt HW9.out) HlN.out).trans HW9.out)
              have HIA := hide hIA
              have HTA := hide (HT9.out.trans hTu)
              have Hmm := hide (show m'.bb = m.bb ∧ m'.tv = m.tv from ⟨hbb, htv⟩)
              clear hIA hbb htv hTu
              go_wp2
              have hresl : Tryz.f69.results = #[.cell 6 41] := by kernel_rfl
              refine bodyPost_ret (v := anV { refS 0 with gen := n } nilS nilS) ?_ rfl ?_
              · simp only [results, hresl]
                go_simp
                simp [refS, rg0]
              · rw [← Hn.out]
                obtain ⟨s1, s2, s3, s4⟩ := set12_same wA (w.heap.size + 1) (.int .i64 0) (.int .i64 0) (.int .u64 n) (.int .i64 0) (.int .u64 0) (.int .i64 0) (.int .i64 0) (.bool false) (.int .i64 0) (.int .u64 0) nilS nilS
                exact rpost_up (a := { refS 0 with gen := n }) H.out HUw.out (Nat.le_succ _) (block_lt HU6.out) HTA.out HIA.out Hmm.out.1 Hmm.out.2 (rd_nil wA) (rd_nil wA) (fun q hq => by simp [Value.ownBlock] at hq) s1 s2 s3 s4 (fun i hi => set12_other hi _ _ _ _ _ _ _ _ _ _ _ _)
            exact AllReadyH.nil
          exact AllReadyH.nil
        exact AllReadyH.nil
      exact AllReadyH.nil
    · have hw' : ((n' : Int) != D) = true := by simpa using hw
      rw [if_pos hw]
      go_enter Tryz.func69, Tryz.ntmps69
      go_wp2_with fail
      obtain ⟨Z, hZ⟩ : ∃ Z, Z = (w.alloc (clO ⟨kd, t, sb, cp, rk, so, md, fl, fr, set, ws⟩ sv (.slice A' n' cA'))).alloc anZ := ⟨_, rfl⟩
      have hZb : Below w.heap.size w Z := by rw [hZ]; exact below_new2 w _ _
      have hZ5 : Z.heap[w.heap.size]? = some (clO ⟨kd, t, sb, cp, rk, so, md, fl, fr, set, ws⟩ sv (.slice A' n' cA')) := by rw [hZ]; exact (heap_two w _ _).1
      have hZ6 : Z.heap[w.heap.size + 1]? = some anZ := by rw [hZ]; exact (heap_two w _ _).2
      rw [← hZ]
      have HZ := hide hZ
      clear hZ
      obtain ⟨t0, t1, t2, t3, t4, t5, t6, t7, t8, t9, t10, tf, tl⟩ := row11 hZ5
      obtain ⟨a0, a1, a2, a3, a4, a5, a6, a7, a8, a9, a10, a11, af, al⟩ := row12 hZ6
      obtain ⟨f1, f2, f3, f4, f5, f6, f7, f8, f9⟩ := HF.out _ hZb
      go_quiet (fail)
      generalize hV : Z.drewN _ = V
      have hVB : Below Z.heap.size Z V := by rw [← hV]; exact below_drewN (Below.refl _ Z) _
      clear hV f1 f2 f3 f4 f5 f6 f7 f8 f9
      obtain ⟨f1, f2, f3, f4, f5, f6, f7, f8, f9⟩ := HF.out _ (hZb.trans (hVB.mono hZb.size))
      obtain ⟨a0, a1, a2, a3, a4, a5, a6, a7, a8, a9, a10, a11, af, al⟩ := row12 ((hVB.block _ al).trans hZ6)
      obtain ⟨t0, t1, t2, t3, t4, t5, t6, t7, t8, t9, t10, tf, tl⟩ := row11 ((hVB.block _ tl).trans hZ5)
      go_wp2_with fail
      go_quiet (fail)
      go_wp2
      have hresl : Tryz.f69.results = #[.cell 6 41] := by kernel_rfl
      refine bodyPost_ret (v := anV (refS 17) nilS nilS) ?_ rfl ?_
      · simp only [results, hresl]
        go_simp
        simp [refS, rg0]
      · exact rpost_plain H.out (set12_below (below_drewN (hZb.trans (hVB.mono hZb.size)) _) (Nat.le_succ _) _ _ _ _ _ _ _ _ _ _ _ _) rfl rfl

end Go.Proofs.YtclgmikdjcjjdaaGreatDoor
