/-
  The walk of the reference's subscribe. Conditions: the document's blackboard in memory.
-/
import Derived.Test.YtclgmikdjcjjdaaGreatDoorBCopies
import Derived.Test.YtclgmikdjcjjdaaGreatDoorBSub
namespace Go.Proofs.YtclgmikdjcjjdaaGreatDoor
open Go.RowKit

/-- What a call of the document's blackboard leaves. -/
def RPost (base : Nat) (w : World) (lab : Nat → Option Lb) (m : RMem) (x : Rb × An) (e : Ending) (w' : World) : Prop :=
  ∃ m' lab' gv wv, e = .returned (anV x.2 gv wv) ∧ IsRef base w' lab' m' x.1 ∧ (m'.bb = m.bb ∧ m'.tv = m.tv) ∧ RTurns w w' lab lab' ∧ Rd w' gv 1 x.2.gens.length (natL x.2.gens) ∧ Rd w' wv 1 x.2.words.length (u64V x.2.words) ∧ ∀ q, gv.ownBlock = some q ∨ wv.ownBlock = some q → lab' q ≠ none ∨ w.heap.size ≤ q

theorem rd_nil (w : World) : Rd w nilS 1 0 [] := ⟨rfl, none, 0, rfl, Nat.le_refl _, by simp [maxLen], fun h => absurd h (by omega)⟩
theorem rpost_plain {base : Nat} {w w' : World} {lab : Nat → Option Lb} {m : RMem} {X : Rb} {a : An} (h : IsRef base w lab m X) (hb : Below w.heap.size w w') (h1 : a.gens = []) (h2 : a.words = []) : RPost base w lab m (X, a) (.returned (anV a nilS nilS)) w' :=
  ⟨m, lab, nilS, nilS, rfl, h.below hb, ⟨rfl, rfl⟩, RTurns.of_below lab hb, by rw [h1]; exact rd_nil w', by rw [h2]; exact rd_nil w', fun q hq => by simp [Value.ownBlock] at hq⟩

/-- An answer's cells are set, behind what was turned. -/
theorem rpost_up {base : Nat} {w Z x x' : World} {lab lab' : Nat → Option Lb} {m m' : RMem} {X X' : Rb} {a : An} {gv wv : Value} {g : Nat} (h0 : IsRef base w lab m X) (hZ : Below w.heap.size w Z) (hg0 : w.heap.size ≤ g) (hg : g < Z.heap.size) (hT : RTurns Z x lab lab') (hI : IsRef base x lab' m' X') (hbb : m'.bb = m.bb) (htv : m'.tv = m.tv)
    (hgv : Rd x gv 1 a.gens.length (natL a.gens)) (hwv : Rd x wv 1 a.words.length (u64V a.words)) (hat : ∀ q, gv.ownBlock = some q ∨ wv.ownBlock = some q → lab' q ≠ none ∨ Z.heap.size ≤ q) (s1 : x'.os = x.os) (s2 : x'.tape = x.tape) (s3 : x'.output = x.output) (s4 : x'.heap.size = x.heap.size) (ho : ∀ i, i ≠ g → x'.heap[i]? = x.heap[i]?) :
    RPost base w lab m (X', a) (.returned (anV a gv wv)) x' := by
  have hlg : lab' g = none := by
    cases hl : lab' g with
    | none => rfl
    | some L => rcases hT.lab g L hl with h1 | h1
                · have := (h0.rows.lt g L h1).2; omega
                · omega
  have hne : ∀ q, gv.ownBlock = some q ∨ wv.ownBlock = some q → q ≠ g := fun q hq e => by
    rcases hat q hq with h1 | h1
    · exact h1 (by rw [e]; exact hlg)
    · omega
  have hZx : RTurns w Z lab lab := RTurns.of_below lab hZ
  have hxx : RTurns w x' lab lab' := by
    have h1 := hZx.trans hT
    refine ⟨s1.trans h1.os, s2.trans h1.tape, s3.trans h1.output, by have := h1.size; omega, fun i hi hn => (ho i (by omega)).trans (h1.block i hi hn), fun i L hL => h1.lab i L hL⟩
  refine ⟨m', lab', gv, wv, rfl, hI.frame (by omega) (fun i _ hi => ho i fun e => ?_), ⟨hbb, htv⟩, hxx, hgv.keepAt (by omega) (fun q hq => ho q (hne q (.inl hq))), hwv.keepAt (by omega) (fun q hq => ho q (hne q (.inr hq))), fun q hq => (hat q hq).imp id (Nat.le_trans hZ.size)⟩
  rcases hi with hi | hi
  · exact hi (by rw [e]; exact hlg)
  · rw [htv] at hi
    have := (h0.tvb i hi).2
    omega

def depthR (X : Rb) (t : Nat) : Int := match X.tp[t]? with | some p => p.2.2 | none => 0
def subR (X : Rb) (task t : Nat) (c : Cl) : Rb × An :=
  if depthR X t - 1 < c.cap then (X, refS 10) else if 8 ≤ (X.subs task).length then (X, refS 16)
  else (X.addSub task ⟨t, c.rank.toNat, c.cap.toNat, [], 0, 0⟩, { refS 0 with sub := (X.subs task).length, gen := (X.al t).length - 1 })


theorem info_rsub : (Tryz.prog.info? 87).map (fun i => (i.zero, i.size, i.bytes)) = some (some (.agg #[.int .i64 0, .int .i64 0, .int .i64 0, nilS, .int .u64 0, .int .u64 0]), 6, 64) := by kernel_rfl
theorem und_rsubs : Tryz.prog.underlying 57 = some (.slice 87) := by kernel_rfl
set_option maxRecDepth 100000 in
set_option maxHeartbeats 1600000 in
theorem rsub_any {base : Nat} {w : World} {lab : Nat → Option Lb} {m : RMem} {X : Rb} (h : IsRef base w lab m X) {task t : Nat} (c : Cl) (sv wv : Value) (hk : task < X.tasks) (hct : c.topic = t) (ht : t < X.tp.length) (hd : 2 ≤ depthR X t ∧ depthR X t ≤ 16) (hcap : 1 ≤ c.cap ∧ c.cap ≤ 15) (hrank : 0 ≤ c.rank ∧ c.rank ≤ 255) {G : Nat} (hG : (X.al t).length = G + 1) (hGb : G ≤ 1000000) :
    Calls Tryz.prog 70 #[.pointer (some ⟨m.bb, 0, none⟩), .int .i64 task, clV c sv wv] w fun e w' => RPost base w lab m (subR X task t c) e w' := by
  obtain ⟨t0, t1, t2, t3, t4, t5, t6, t7, t8, t9, t10, t11, tf, tl⟩ := row12 h.blk
  obtain ⟨tb, to, tc, htv, ht1, ht2, htb, htc⟩ := h.topics.open_ (by omega)
  obtain ⟨-, -, hx2⟩ := flatT_at X.tp t ht
  have hdd : depthR X t = X.tp[t].2.2 := by unfold depthR; rw [List.getElem?_eq_getElem ht]
  rw [← hdd] at hx2
  have hcd := htc _ _ hx2
  rw [← Nat.add_assoc] at hcd
  rw [htv] at t1
  obtain ⟨kd, tp, sb, cp, rk, so, md, fl, fr, set, ws⟩ := c
  simp only at hct hcap hrank
  obtain ⟨cp, rfl⟩ : ∃ x : Nat, cp = x := ⟨cp.toNat, by omega⟩
  obtain ⟨rk, rfl⟩ : ∃ x : Nat, rk = x := ⟨rk.toNat, by omega⟩
  subst hct
  unfold subR
  simp only
  obtain ⟨D, hD⟩ : ∃ D, D = depthR X t := ⟨_, rfl⟩
  rw [← hD] at hcd hd ⊢
  have hwD : IntKind.i64.wrap (D - 1) = D - 1 := by rw [IntKind.wrap_i64]; omega
  obtain ⟨N, hN⟩ : ∃ N, N = X.tp.length := ⟨_, rfl⟩
  have ht' := ht
  rw [← hN] at t1 ht' ht1
  have hN63 : N ≤ 9223372036854775807 := by unfold maxLen at ht2; omega
  obtain ⟨sb', so', sc, hsv, hs1, hs2, hsb, hsc⟩ := h.rdSubs.open_ (by omega)
  have hcs := hsc _ _ (range_at hk m.subsT)
  rw [hsv] at t6
  obtain ⟨A, cA, hAv, hA1, hA2, -⟩ := (h.rdSubsT hk).shape
  rw [hAv] at hcs
  obtain ⟨T, hT⟩ : ∃ T, T = X.tasks := ⟨_, rfl⟩
  have hk' := hk
  rw [← hT] at t6 hk' hs1
  have hT63 : T ≤ 9223372036854775807 := by unfold maxLen at hs2; omega
  obtain ⟨n, hn⟩ : ∃ n, n = (X.subs task).length := ⟨_, rfl⟩
  rw [← hn] at hcs hA1 ⊢
  have hn63 : n ≤ 9223372036854775807 := by unfold maxLen at hA2; omega
  have hbl := block_lt h.blk
  have HF := hide (fun (w' : World) (hb : Below w.heap.size w w') => show w'.cell? ⟨m.bb, 1, none⟩ = some (.slice (some ⟨tb, to, none⟩) N tc) ∧ w'.cell? ⟨tb, to + t * 3 + 2, none⟩ = some (.int .i64 D) ∧ w'.cell? ⟨m.bb, 6, none⟩ = some (.slice (some ⟨sb', so', none⟩) T sc) ∧ w'.cell? ⟨sb', so' + task, none⟩ = some (.slice A n cA) ∧ m.bb < w'.heap.size ∧ tb < w'.heap.size ∧ sb' < w'.heap.size from
    ⟨(hb.cell (p := ⟨m.bb, 1, none⟩) hbl).trans t1, (hb.cell (p := ⟨tb, to + t * 3 + 2, none⟩) htb).trans hcd, (hb.cell (p := ⟨m.bb, 6, none⟩) hbl).trans t6, (hb.cell (p := ⟨sb', so' + task, none⟩) hsb).trans hcs, Nat.lt_of_lt_of_le hbl hb.size, Nat.lt_of_lt_of_le htb hb.size, Nat.lt_of_lt_of_le hsb hb.size⟩)
  have hgen : (X.al t).length - 1 = G := by omega
  rw [hgen]
  have HGl := hide hG
  have H := hide h
  have HN := hide hN
  have HT := hide hT
  have Hn := hide hn
  have HA := hide hAv
  have Hsv := hide hsv
  have HD := hide hD
  clear h hgen hG hdd htc hx2 htv hN hT hn hAv hsv hsc hD t0 t1 t2 t3 t4 t5 t6 t7 t8 t9 t10 t11 tf tl hcd hcs hbl htb hsb
  by_cases hdc : D - 1 < (cp : Int)
  · rw [if_pos hdc]
    go_enter Tryz.func70, Tryz.ntmps70
    go_wp2_with fail
    obtain ⟨Z, hZ⟩ : ∃ Z, Z = (w.alloc (clO ⟨kd, t, sb, cp, rk, so, md, fl, fr, set, ws⟩ sv wv)).alloc anZ := ⟨_, rfl⟩
    have hZb : Below w.heap.size w Z := by rw [hZ]; exact below_new2 w _ _
    have hZ5 : Z.heap[w.heap.size]? = some (clO ⟨kd, t, sb, cp, rk, so, md, fl, fr, set, ws⟩ sv wv) := by rw [hZ]; exact (heap_two w _ _).1
    have hZ6 : Z.heap[w.heap.size + 1]? = some anZ := by rw [hZ]; exact (heap_two w _ _).2
    rw [← hZ]
    have HZ := hide hZ
    clear hZ
    obtain ⟨t0, t1, t2, t3, t4, t5, t6, t7, t8, t9, t10, tf, tl⟩ := row11 hZ5
    obtain ⟨a0, a1, a2, a3, a4, a5, a6, a7, a8, a9, a10, a11, af, al⟩ := row12 hZ6
    obtain ⟨f1, f2, f3, f4, f5, f6, f7⟩ := HF.out _ hZb
    go_quiet (fail)
    go_wp2
    have hresl : Tryz.f70.results = #[.cell 6 41] := by kernel_rfl
    refine bodyPost_ret (v := anV (refS 10) nilS nilS) ?_ rfl ?_
    · simp only [results, hresl]
      go_simp
      simp [refS, rg0]
    · exact rpost_plain H.out (set12_below (below_drewN hZb _) (Nat.le_succ _) _ _ _ _ _ _ _ _ _ _ _ _) rfl rfl
  rw [if_neg hdc]
  by_cases h8 : 8 ≤ n
  · rw [if_pos h8]
    go_enter Tryz.func70, Tryz.ntmps70
    go_wp2_with fail
    obtain ⟨Z, hZ⟩ : ∃ Z, Z = (w.alloc (clO ⟨kd, t, sb, cp, rk, so, md, fl, fr, set, ws⟩ sv wv)).alloc anZ := ⟨_, rfl⟩
    have hZb : Below w.heap.size w Z := by rw [hZ]; exact below_new2 w _ _
    have hZ5 : Z.heap[w.heap.size]? = some (clO ⟨kd, t, sb, cp, rk, so, md, fl, fr, set, ws⟩ sv wv) := by rw [hZ]; exact (heap_two w _ _).1
    have hZ6 : Z.heap[w.heap.size + 1]? = some anZ := by rw [hZ]; exact (heap_two w _ _).2
    rw [← hZ]
    have HZ := hide hZ
    clear hZ
    obtain ⟨t0, t1, t2, t3, t4, t5, t6, t7, t8, t9, t10, tf, tl⟩ := row11 hZ5
    obtain ⟨a0, a1, a2, a3, a4, a5, a6, a7, a8, a9, a10, a11, af, al⟩ := row12 hZ6
    obtain ⟨f1, f2, f3, f4, f5, f6, f7⟩ := HF.out _ hZb
    go_quiet (fail)
    generalize hV : Z.drewN _ = V
    have hVB : Below Z.heap.size Z V := by rw [← hV]; exact below_drewN (Below.refl _ Z) _
    clear hV f1 f2 f3 f4 f5 f6 f7
    obtain ⟨f1, f2, f3, f4, f5, f6, f7⟩ := HF.out _ (hZb.trans (hVB.mono hZb.size))
    obtain ⟨a0, a1, a2, a3, a4, a5, a6, a7, a8, a9, a10, a11, af, al⟩ := row12 ((hVB.block _ al).trans hZ6)
    go_wp2
    have hresl : Tryz.f70.results = #[.cell 6 41] := by kernel_rfl
    refine bodyPost_ret (v := anV (refS 16) nilS nilS) ?_ rfl ?_
    · simp only [results, hresl]
      go_simp
      simp [refS, rg0]
    · exact rpost_plain H.out (set12_below (hZb.trans (hVB.mono hZb.size)) (Nat.le_succ _) _ _ _ _ _ _ _ _ _ _ _ _) rfl rfl
  rw [if_neg h8]
  have h8n : n < 8 := by omega
  go_enter Tryz.func70, Tryz.ntmps70
  go_wp2_with fail
  obtain ⟨Z, hZ⟩ : ∃ Z, Z = (w.alloc (clO ⟨kd, t, sb, cp, rk, so, md, fl, fr, set, ws⟩ sv wv)).alloc anZ := ⟨_, rfl⟩
  have hZb : Below w.heap.size w Z := by rw [hZ]; exact below_new2 w _ _
  have hZ5 : Z.heap[w.heap.size]? = some (clO ⟨kd, t, sb, cp, rk, so, md, fl, fr, set, ws⟩ sv wv) := by rw [hZ]; exact (heap_two w _ _).1
  have hZ6 : Z.heap[w.heap.size + 1]? = some anZ := by rw [hZ]; exact (heap_two w _ _).2
  rw [← hZ]
  have HZ := hide hZ
  clear hZ
  obtain ⟨t0, t1, t2, t3, t4, t5, t6, t7, t8, t9, t10, tf, tl⟩ := row11 hZ5
  obtain ⟨a0, a1, a2, a3, a4, a5, a6, a7, a8, a9, a10, a11, af, al⟩ := row12 hZ6
  obtain ⟨f1, f2, f3, f4, f5, f6, f7⟩ := HF.out _ hZb
  go_quiet (fail)
  generalize hV : Z.drewN _ = V
  have hVB : Below Z.heap.size Z V := by rw [← hV]; exact below_drewN (Below.refl _ Z) _
  clear hV f1 f2 f3 f4 f5 f6 f7
  obtain ⟨f1, f2, f3, f4, f5, f6, f7⟩ := HF.out _ (hZb.trans (hVB.mono hZb.size))
  have hVt := hVB.block _ tl
  obtain ⟨t0, t1, t2, t3, t4, t5, t6, t7, t8, t9, t10, tf, tl⟩ := row11 (hVt.trans hZ5)
  have HV6 := hide ((hVB.block _ al).trans hZ6)
  have HVb := hide (hZb.trans (hVB.mono hZb.size))
  clear hVt a0 a1 a2 a3 a4 a5 a6 a7 a8 a9 a10 a11 af
  have hIV := H.out.below HVb.out
  have hAv : m.subsT task = .slice A n cA := by rw [HA.out, ← Hn.out]
  have hS : refR m X (.subsT task) = some ⟨false, 87, 6, m.subsT task, (X.subs task).length, flatRs (m.q task) 0 (X.subs task)⟩ := by simp [refR, hk]
  have hrowV := (hIV.rows.row _ _ hS).1
  unfold RowAt at hrowV
  rw [if_neg (by simp), hAv, ← Hn.out] at hrowV
  have hlS := (hIV.rows.row _ _ hS).2
  simp only [hAv] at hlS
  have hl6 : lab sb' = some .subs := (hIV.rows.row .subs _ rfl).2 sb' (by rw [Hsv.out]; rfl)
  have hlt6 := (H.out.rows.lt _ _ hl6).2
  have hb6 : m.bb ≠ sb' := fun e => by have := H.out.lbb; rw [e, hl6] at this; cases this
  have hne : ∀ q, (Value.slice A n cA).ownBlock = some q → q ≠ sb' ∧ q ≠ m.bb ∧ q < w.heap.size := fun q hq =>
    ⟨fun e => (by have := hlS q hq; rw [e, hl6] at this; cases this), fun e => (by have := hlS q hq; rw [e, H.out.lbb] at this; cases this), (H.out.rows.lt _ _ (hlS q hq)).2⟩
  have hrow6 := (hIV.rows.row .subs _ rfl).1
  unfold RowAt at hrow6
  rw [if_neg (by simp)] at hrow6
  have hcur : ∃ cur, V.heap[sb']? = some (.cells cur 57 (0, 0)) := by
    rcases hrow6.2 with ⟨h0, -⟩ | ⟨g', cap', cur, hv, -, hg, -⟩
    · rw [Hsv.out] at h0; cases h0
    · simp only [Hsv.out] at hv
      cases hv
      exact ⟨cur, hg⟩
  obtain ⟨cur6, hcur6⟩ := hcur
  have hbase : base ≤ w.heap.size := by have := H.out.rows.lt _ _ H.out.lbb; omega
  have HIV := hide hIV
  have HrowV := hide hrowV
  have Hne := hide hne
  have Hcur6 := hide hcur6
  have Hsz := hide HVb.out.size
  have hw1 := al
  clear hIV hAv hS hrowV hlS hrow6 hne hcur6 t0 t2 t5 t6 t7 t8 t9 t10 tf f1 f2 hVB
  obtain ⟨i0, hi, hz0, hz1, hz2⟩ := info_parts info_rsub
  have HK : ∀ w' : World, (∀ i, i ≠ sb' → (Value.slice A n cA).ownBlock ≠ some i → i < V.heap.size → w'.heap[i]? = V.heap[i]?) → w'.cell? ⟨m.bb, 6, none⟩ = some (.slice (some ⟨sb', so', none⟩) T sc) ∧ w'.cell? ⟨w.heap.size, 1, none⟩ = some (.int .i64 t) ∧ w'.cell? ⟨w.heap.size, 3, none⟩ = some (.int .i64 cp) ∧ w'.cell? ⟨w.heap.size, 4, none⟩ = some (.int .i64 rk) := fun w' hw' =>
    have hb' := hw' m.bb hb6 (fun e => (Hne.out _ e).2.1 rfl) f5
    have hl' := hw' w.heap.size (by omega) (fun e => by have := (Hne.out _ e).2.2; omega) tl
    ⟨(World.cell?_of_block (a := ⟨m.bb, 6, none⟩) hb').trans f3, (World.cell?_of_block (a := ⟨w.heap.size, 1, none⟩) hl').trans t1, (World.cell?_of_block (a := ⟨w.heap.size, 3, none⟩) hl').trans t3, (World.cell?_of_block (a := ⟨w.heap.size, 4, none⟩) hl').trans t4⟩
  have hK1 := HK V.drew (fun _ _ _ _ => rfl)
  have hK2 := HK (V.drew.alloc (.cells #[.int .i64 t, .int .i64 rk, .int .i64 cp, nilS, .int .u64 0, .int .u64 0] 87)) (fun i _ _ hi => (below_new V.drew _).block i hi)
  have hK3 := HK (V.alloc (.cells #[.int .i64 t, .int .i64 rk, .int .i64 cp, nilS, .int .u64 0, .int .u64 0] 87)).drew (fun i _ _ hi => (below_new V _).block i hi)
  have yrd : V.drew.cell? ⟨sb', so' + task, none⟩ = some (.slice A n cA) := f4
  have yra : (V.drew.alloc (.cells #[.int .i64 t, .int .i64 rk, .int .i64 cp, nilS, .int .u64 0, .int .u64 0] 87)).cell? ⟨sb', so' + task, none⟩ = some (.slice A n cA) := (World.cell?_alloc_lt V.drew _ ⟨sb', so' + task, none⟩ f7).trans f4
  go_wp2_with fail
  refine wp_region_noPanic ?_
  refine wp_region_held_drew (S := (fun w' => w'.cell? ⟨m.bb, 6, none⟩ = some (.slice (some ⟨sb', so', none⟩) T sc) ∧ w'.cell? ⟨w.heap.size, 1, none⟩ = some (.int .i64 t) ∧ w'.cell? ⟨w.heap.size, 3, none⟩ = some (.int .i64 cp) ∧ w'.cell? ⟨w.heap.size, 4, none⟩ = some (.int .i64 rk))) (by kernel_rfl) (by (try dsimp only); (first | with_reducible assumption | with_reducible exact hK1 | with_reducible exact hK2 | with_reducible exact hK3)) (fun hHeld0 => ?_)
  refine held_take (i := 0) (v := ?_) (by rfl) (by kernel_rfl) (by kernel_rfl) (by kernel_rfl) (fun _ _ _ h => h) (Or.inl ⟨by rfl, ?_⟩) hHeld0 ?_
  rotate_left
  · (intro w hSw; (try dsimp only at hSw); go_simp; try with_reducible rfl)
  try simp only [Act.put, List.setIfInBounds_toArray, List.set_cons_zero, List.set_cons_succ]
  refine held_take (i := 1) (v := ?_) (by rfl) (by kernel_rfl) (by kernel_rfl) (by kernel_rfl) (fun _ _ _ h => h) (Or.inl ⟨by rfl, ?_⟩) hHeld0 ?_
  rotate_left
  · (intro w hSw; (try dsimp only at hSw); go_simp; try with_reducible rfl)
  try simp only [Act.put, List.setIfInBounds_toArray, List.set_cons_zero, List.set_cons_succ]
  refine held_take (i := 2) (v := ?_) (by rfl) (by kernel_rfl) (by kernel_rfl) (by kernel_rfl) (fun _ _ _ h => h) (Or.inl ⟨by rfl, ?_⟩) hHeld0 ?_
  rotate_left
  · (intro w hSw; (try dsimp only at hSw); go_simp; try with_reducible rfl)
  try simp only [Act.put, List.setIfInBounds_toArray, List.set_cons_zero, List.set_cons_succ]
  refine held_take (i := 3) (v := ?_) (by rfl) (by kernel_rfl) (by kernel_rfl) (by kernel_rfl) (fun _ _ _ h => h) (Or.inl ⟨by rfl, ?_⟩) hHeld0 ?_
  rotate_left
  · (intro w hSw; (try dsimp only at hSw); go_simp; try with_reducible rfl)
  try simp only [Act.put, List.setIfInBounds_toArray, List.set_cons_zero, List.set_cons_succ]
  refine held_take (i := 4) (v := ?_) (by rfl) (by kernel_rfl) (by kernel_rfl) (by kernel_rfl) (fun _ _ _ h => h) (Or.inl ⟨by rfl, ?_⟩) hHeld0 ?_
  rotate_left
  · (intro w hSw; (try dsimp only at hSw); go_simp; try with_reducible rfl)
  try simp only [Act.put, List.setIfInBounds_toArray, List.set_cons_zero, List.set_cons_succ]
  refine held_take (i := 5) (v := ?_) (by rfl) (by kernel_rfl) (by kernel_rfl) (by kernel_rfl) (fun _ _ _ h => h) (Or.inl ⟨by rfl, ?_⟩) hHeld0 ?_
  rotate_left
  · (intro w hSw; (try dsimp only at hSw); go_simp; try with_reducible rfl)
  try simp only [Act.put, List.setIfInBounds_toArray, List.set_cons_zero, List.set_cons_succ]
  refine held_take (i := 6) (v := ?_) (by rfl) (by kernel_rfl) (by kernel_rfl) (by kernel_rfl) (fun _ _ _ h => h) (Or.inl ⟨by rfl, ?_⟩) hHeld0 ?_
  rotate_left
  · (intro w hSw; (try dsimp only at hSw); go_simp; try with_reducible rfl)
  try simp only [Act.put, List.setIfInBounds_toArray, List.set_cons_zero, List.set_cons_succ]
  refine held_take (i := 7) (v := ?_) (by rfl) (by kernel_rfl) (by kernel_rfl) (by kernel_rfl) (fun _ _ _ h => h) (Or.inl ⟨by rfl, ?_⟩) hHeld0 ?_
  rotate_left
  · (intro w hSw; (try dsimp only at hSw); go_simp; try with_reducible rfl)
  try simp only [Act.put, List.setIfInBounds_toArray, List.set_cons_zero, List.set_cons_succ]
  refine held_take (i := 8) (v := ?_) (by rfl) (by kernel_rfl) (by kernel_rfl) (by kernel_rfl) (fun _ _ _ h => h) (Or.inl ⟨by rfl, ?_⟩) hHeld0 ?_
  rotate_left
  · (intro w hSw; (try dsimp only at hSw); go_simp; try with_reducible rfl)
  try simp only [Act.put, List.setIfInBounds_toArray, List.set_cons_zero, List.set_cons_succ]
  refine held_take (i := 9) (v := ?_) (by rfl) (by kernel_rfl) (by kernel_rfl) (by kernel_rfl) (fun _ _ _ h => h) (Or.inl ⟨by rfl, ?_⟩) hHeld0 ?_
  rotate_left
  · (intro w hSw; (try dsimp only at hSw); go_simp; try with_reducible rfl)
  try simp only [Act.put, List.setIfInBounds_toArray, List.set_cons_zero, List.set_cons_succ]
  refine held_take (i := 10) (v := ?_) (by rfl) (by kernel_rfl) (by kernel_rfl) (by kernel_rfl) (fun _ _ _ h => h) (Or.inl ⟨by rfl, ?_⟩) hHeld0 ?_
  rotate_left
  · (intro w hSw; (try dsimp only at hSw); go_simp; try with_reducible rfl)
  try simp only [Act.put, List.setIfInBounds_toArray, List.set_cons_zero, List.set_cons_succ]
  refine held_take (i := 12) (v := ?_) (by rfl) (by kernel_rfl) (by kernel_rfl) (by kernel_rfl) (fun _ _ _ h => h) (Or.inl ⟨by rfl, ?_⟩) hHeld0 ?_
  rotate_left
  · (intro w hSw; (try dsimp only at hSw); go_simp; try with_reducible rfl)
  try simp only [Act.put, List.setIfInBounds_toArray, List.set_cons_zero, List.set_cons_succ]
  refine held_take (i := 13) (v := ?_) (by rfl) (by kernel_rfl) (by kernel_rfl) (by kernel_rfl) (fun _ _ _ h => h) (Or.inl ⟨by rfl, ?_⟩) hHeld0 ?_
  rotate_left
  · (intro w hSw; (try dsimp only at hSw); go_simp; try with_reducible rfl)
  try simp only [Act.put, List.setIfInBounds_toArray, List.set_cons_zero, List.set_cons_succ]
  refine held_take (i := 14) (v := ?_) (by rfl) (by kernel_rfl) (by kernel_rfl) (by kernel_rfl) (fun _ _ _ h => h) (Or.inl ⟨by rfl, ?_⟩) hHeld0 ?_
  rotate_left
  · (intro w hSw; (try dsimp only at hSw); go_simp; try with_reducible rfl)
  try simp only [Act.put, List.setIfInBounds_toArray, List.set_cons_zero, List.set_cons_succ]
  refine held_take (i := 15) (v := ?_) (by rfl) (by kernel_rfl) (by kernel_rfl) (by kernel_rfl) (fun _ _ _ h => h) (Or.inl ⟨by rfl, ?_⟩) hHeld0 ?_
  rotate_left
  · (intro w hSw; (try dsimp only at hSw); go_simp; try with_reducible rfl)
  try simp only [Act.put, List.setIfInBounds_toArray, List.set_cons_zero, List.set_cons_succ]
  refine held_take (i := 16) (v := ?_) (by rfl) (by kernel_rfl) (by kernel_rfl) (by kernel_rfl) (fun _ _ _ h => h) (Or.inl ⟨by rfl, ?_⟩) hHeld0 ?_
  rotate_left
  · (intro w hSw; (try dsimp only at hSw); go_simp; try with_reducible rfl)
  try simp only [Act.put, List.setIfInBounds_toArray, List.set_cons_zero, List.set_cons_succ]
  refine held_take (i := 17) (v := ?_) (by rfl) (by kernel_rfl) (by kernel_rfl) (by kernel_rfl) (fun _ _ _ h => h) (Or.inl ⟨by rfl, ?_⟩) hHeld0 ?_
  rotate_left
  · (intro w hSw; (try dsimp only at hSw); go_simp; try with_reducible rfl)
  try simp only [Act.put, List.setIfInBounds_toArray, List.set_cons_zero, List.set_cons_succ]
  refine held_take (i := 18) (v := ?_) (by rfl) (by kernel_rfl) (by kernel_rfl) (by kernel_rfl) (fun _ _ _ h => h) (Or.inl ⟨by rfl, ?_⟩) hHeld0 ?_
  rotate_left
  · (intro w hSw; (try dsimp only at hSw); go_simp; try with_reducible rfl)
  try simp only [Act.put, List.setIfInBounds_toArray, List.set_cons_zero, List.set_cons_succ]
  refine wpAnyH_ready (rs := [11, 19]) (by kernel_rfl) (by simp) ?_
  refine held_cons (by rfl) (fun K hK => ?_) ?_
  · go_simp
    refine hK.out _ _ (by (try dsimp only); (first | with_reducible assumption | with_reducible exact hK1 | with_reducible exact hK2 | with_reducible exact hK3)) (fun hHeld1 => ?_)
    clear hK K hHeld0
    try simp only [Act.put, List.setIfInBounds_toArray, List.set_cons_zero, List.set_cons_succ]
    refine wpAnyH_ready (rs := [19]) (by kernel_rfl) (by simp) ?_
    refine held_cons (by rfl) (fun K hK => ?_) ?_
    · go_simp
      refine hK.out _ _ (by (try dsimp only); (first | with_reducible assumption | with_reducible exact hK1 | with_reducible exact hK2 | with_reducible exact hK3)) (fun hHeld2 => ?_)
      clear hK K hHeld1
      try simp only [Act.put, List.setIfInBounds_toArray, List.set_cons_zero, List.set_cons_succ]
      refine wpAnyH_ready (rs := [20]) (by kernel_rfl) (by simp) ?_
      refine held_cons (by rfl) (fun K hK => ?_) ?_
      · (first | (refine step_append_lies _ rfl (.tmp 45) (.tmp 53) 57 rfl base 87 i0 _ 6 64 und_rsubs hi hz0 hz1 hz2 rfl (by decide) (.slice A n cA) n (flatRs (m.q task) 0 (X.subs task)) rfl (HrowV.out.drew.alloc _) ⟨V.heap.size, 0, none⟩ 1 1 [.int .i64 t, .int .i64 rk, .int .i64 cp, nilS, .int .u64 0, .int .u64 0] rfl rfl (news6 _ _ _ _ _ _ _ _) (by simp [Value.oneCell']) (by omega) (by unfold maxLen; omega) (by omega) (by have := Hsz.out; simp; omega) (V.heap.size + 1) (by simp) ?_; intro g4 c4' w4 hown4 hg4 hli4 hlt4; have hsub4 : w4.heap[sb']? = some (.cells cur6 57 (0, 0)) := (hg4.block sb' (by simp; omega) (fun e => (Hne.out _ e.symm).1 rfl)).trans (alloc_was _ _ _ _ Hcur6.out); have r4 : w4.cell? ⟨sb', so' + task, none⟩ = some (.slice A n cA) := (World.cell?_of_block (a := ⟨sb', so' + task, none⟩) (hsub4.trans Hcur6.out.symm)).trans f4; have f9 := frozen_of hsub4 (so' + task); have hK4 := HK w4 (fun i h1 h2 h3 => (hg4.block i (by simp; omega) (fun e => h2 e.symm)).trans ((below_new V.drew _).block i h3)); have hK5 := HK (w4.setCell ⟨sb', so' + task, none⟩ (.slice (some ⟨g4, 0, none⟩) (n + 1) c4')) (fun i h1 h2 h3 => (Below.heap_setCell w4 ⟨sb', so' + task, none⟩ _ _ h1).trans ((hg4.block i (by simp; omega) (fun e => h2 e.symm)).trans ((below_new V.drew _).block i h3)))))
        refine hK.out _ _ (by (try dsimp only); (first | with_reducible assumption | with_reducible exact hK1 | with_reducible exact hK2 | with_reducible exact hK3)) (fun hHeld3 => ?_)
        clear hK K hHeld2
        try simp only [Act.put, List.setIfInBounds_toArray, List.set_cons_zero, List.set_cons_succ]
        refine held_take (i := 21) (v := ?_) (by rfl) (by kernel_rfl) (by kernel_rfl) (by kernel_rfl) (fun _ _ _ h => h) (Or.inl ⟨by rfl, ?_⟩) hHeld3 ?_
        rotate_left
        · (intro w hSw; (try dsimp only at hSw); go_simp; try with_reducible rfl)
        try simp only [Act.put, List.setIfInBounds_toArray, List.set_cons_zero, List.set_cons_succ]
        refine wpAnyH_ready (rs := [22]) (by kernel_rfl) (by simp) ?_
        refine held_cons (by rfl) (fun K hK => ?_) ?_
        · go_simp
          refine hK.out _ _ (by (try dsimp only); (first | with_reducible assumption | with_reducible exact hK1 | with_reducible exact hK2 | with_reducible exact hK3)) (fun hHeld4 => ?_)
          clear hK K hHeld3
          try simp only [Act.put, List.setIfInBounds_toArray, List.set_cons_zero, List.set_cons_succ]
          refine wpAnyH_done (by kernel_rfl) ?_ _
          refine NoPanic.normal ?_
          clear hHeld4
          have hIY := (HIV.out.below (Below.refl _ V).drew).below (below_new V.drew (.cells #[.int .i64 t, .int .i64 rk, .int .i64 cp, nilS, .int .u64 0, .int .u64 0] 87))
          obtain ⟨labN, hIn, hTn⟩ := hIY.addSub (t := t) (rk := rk) (cp := cp) hk Hn.out (by rw [HA.out, ← Hn.out]; exact hg4) hown4 (by rw [HA.out, ← Hn.out]; simpa using hli4) Hsv.out
          have hW6 : (w4.setCell ⟨sb', so' + task, none⟩ (.slice (some ⟨g4, 0, none⟩) (n + 1) c4')).heap[w.heap.size + 1]? = some anZ := (Below.heap_setCell w4 ⟨sb', so' + task, none⟩ _ _ (show w.heap.size + 1 ≠ sb' by omega)).trans ((hg4.block _ (by have := block_lt HV6.out; simp; omega) (fun e => by have := (Hne.out _ e.symm).2.2; omega)).trans ((below_new V.drew _).block _ (block_lt HV6.out) |>.trans HV6.out))
          obtain ⟨-, x1, -, -⟩ := hK5
          revert hIn hTn hW6 x1
          generalize w4.setCell ⟨sb', so' + task, none⟩ (.slice (some ⟨g4, 0, none⟩) (n + 1) c4') = W
          intro hIn hTn hW6 x1
          have HTW := hide ((RTurns.of_below lab (Below.refl _ V).drew).trans ((RTurns.of_below lab (below_new V.drew _)).trans hTn))
          have HIn := hide hIn
          have hxl : w.heap.size < W.heap.size := by have := block_lt hW6; omega
          have hxa := block_lt hW6
          have HW6 := hide hW6
          clear hK1 hK2 hK3 hK4 hIY hIn hTn hW6 yrd yra HK r4 f9 hsub4 hown4 hg4 hli4 hlt4 hi hz0 hz1 hz2 f3 f4 f5 f6 f7 t1 t3 t4 tl
          go_wp2_with fail
          refine (rgen_any HIn.out ht HGl.out hGb).mono ?_
          rintro e w9 ⟨rfl, hb9⟩
          obtain ⟨b0, b1, b2, b3, b4, b5, b6, b7, b8, b9, b10, b11, bf, bl⟩ := row12 ((hb9.block _ hxa).trans HW6.out)
          go_wp2
          have hresl : Tryz.f70.results = #[.cell 6 41] := by kernel_rfl
          refine bodyPost_ret (v := anV { refS 0 with sub := n, gen := G } nilS nilS) ?_ rfl ?_
          · simp only [results, hresl]
            go_simp
            simp [refS, rg0]
          · obtain ⟨s1, s2, s3, s4⟩ := set12_same w9 (w.heap.size + 1) (.int .i64 0) (.int .i64 n) (.int .u64 G) (.int .i64 0) (.int .u64 0) (.int .i64 0) (.int .i64 0) (.bool false) (.int .i64 0) (.int .u64 0) nilS nilS
            exact rpost_up (a := { refS 0 with sub := n, gen := G }) H.out HVb.out (Nat.le_succ _) (block_lt HV6.out) (HTW.out.trans (RTurns.of_below labN hb9)) (HIn.out.below hb9) rfl rfl (rd_nil w9) (rd_nil w9) (fun q hq => by simp [Value.ownBlock] at hq) s1 s2 s3 s4 (fun i hi => set12_other hi _ _ _ _ _ _ _ _ _ _ _ _)
        exact AllReadyH.nil
      exact AllReadyH.nil
    exact AllReadyH.nil
  refine held_cons (by rfl) (fun K hK => ?_) ?_
  · go_simp
    refine hK.out _ _ (by (try dsimp only); (first | with_reducible assumption | with_reducible exact hK1 | with_reducible exact hK2 | with_reducible exact hK3)) (fun hHeld5 => ?_)
    clear hK K hHeld0
    try simp only [Act.put, List.setIfInBounds_toArray, List.set_cons_zero, List.set_cons_succ]
    refine wpAnyH_ready (rs := [11]) (by kernel_rfl) (by simp) ?_
    refine held_cons (by rfl) (fun K hK => ?_) ?_
    · go_simp
      refine hK.out _ _ (by (try dsimp only); (first | with_reducible assumption | with_reducible exact hK1 | with_reducible exact hK2 | with_reducible exact hK3)) (fun hHeld6 => ?_)
      clear hK K hHeld5
      try simp only [Act.put, List.setIfInBounds_toArray, List.set_cons_zero, List.set_cons_succ]
      refine wpAnyH_ready (rs := [20]) (by kernel_rfl) (by simp) ?_
      refine held_cons (by rfl) (fun K hK => ?_) ?_
      · (first | (refine step_append_lies _ rfl (.tmp 45) (.tmp 53) 57 rfl base 87 i0 _ 6 64 und_rsubs hi hz0 hz1 hz2 rfl (by decide) (.slice A n cA) n (flatRs (m.q task) 0 (X.subs task)) rfl (HrowV.out.drew.alloc _) ⟨V.heap.size, 0, none⟩ 1 1 [.int .i64 t, .int .i64 rk, .int .i64 cp, nilS, .int .u64 0, .int .u64 0] rfl rfl (news6 _ _ _ _ _ _ _ _) (by simp [Value.oneCell']) (by omega) (by unfold maxLen; omega) (by omega) (by have := Hsz.out; simp; omega) (V.heap.size + 1) (by simp) ?_; intro g4 c4' w4 hown4 hg4 hli4 hlt4; have hsub4 : w4.heap[sb']? = some (.cells cur6 57 (0, 0)) := (hg4.block sb' (by simp; omega) (fun e => (Hne.out _ e.symm).1 rfl)).trans (alloc_was _ _ _ _ Hcur6.out); have r4 : w4.cell? ⟨sb', so' + task, none⟩ = some (.slice A n cA) := (World.cell?_of_block (a := ⟨sb', so' + task, none⟩) (hsub4.trans Hcur6.out.symm)).trans f4; have f9 := frozen_of hsub4 (so' + task); have hK4 := HK w4 (fun i h1 h2 h3 => (hg4.block i (by simp; omega) (fun e => h2 e.symm)).trans ((below_new V.drew _).block i h3)); have hK5 := HK (w4.setCell ⟨sb', so' + task, none⟩ (.slice (some ⟨g4, 0, none⟩) (n + 1) c4')) (fun i h1 h2 h3 => (Below.heap_setCell w4 ⟨sb', so' + task, none⟩ _ _ h1).trans ((hg4.block i (by simp; omega) (fun e => h2 e.symm)).trans ((below_new V.drew _).block i h3)))))
        refine hK.out _ _ (by (try dsimp only); (first | with_reducible assumption | with_reducible exact hK1 | with_reducible exact hK2 | with_reducible exact hK3)) (fun hHeld7 => ?_)
        clear hK K hHeld6
        try simp only [Act.put, List.setIfInBounds_toArray, List.set_cons_zero, List.set_cons_succ]
        refine held_take (i := 21) (v := ?_) (by rfl) (by kernel_rfl) (by kernel_rfl) (by kernel_rfl) (fun _ _ _ h => h) (Or.inl ⟨by rfl, ?_⟩) hHeld7 ?_
        rotate_left
        · (intro w hSw; (try dsimp only at hSw); go_simp; try with_reducible rfl)
        try simp only [Act.put, List.setIfInBounds_toArray, List.set_cons_zero, List.set_cons_succ]
        refine wpAnyH_ready (rs := [22]) (by kernel_rfl) (by simp) ?_
        refine held_cons (by rfl) (fun K hK => ?_) ?_
        · go_simp
          refine hK.out _ _ (by (try dsimp only); (first | with_reducible assumption | with_reducible exact hK1 | with_reducible exact hK2 | with_reducible exact hK3)) (fun hHeld8 => ?_)
          clear hK K hHeld7
          try simp only [Act.put, List.setIfInBounds_toArray, List.set_cons_zero, List.set_cons_succ]
          refine wpAnyH_done (by kernel_rfl) ?_ _
          refine NoPanic.normal ?_
          clear hHeld8
          have hIY := (HIV.out.below (Below.refl _ V).drew).below (below_new V.drew (.cells #[.int .i64 t, .int .i64 rk, .int .i64 cp, nilS, .int .u64 0, .int .u64 0] 87))
          obtain ⟨labN, hIn, hTn⟩ := hIY.addSub (t := t) (rk := rk) (cp := cp) hk Hn.out (by rw [HA.out, ← Hn.out]; exact hg4) hown4 (by rw [HA.out, ← Hn.out]; simpa using hli4) Hsv.out
          have hW6 : (w4.setCell ⟨sb', so' + task, none⟩ (.slice (some ⟨g4, 0, none⟩) (n + 1) c4')).heap[w.heap.size + 1]? = some anZ := (Below.heap_setCell w4 ⟨sb', so' + task, none⟩ _ _ (show w.heap.size + 1 ≠ sb' by omega)).trans ((hg4.block _ (by have := block_lt HV6.out; simp; omega) (fun e => by have := (Hne.out _ e.symm).2.2; omega)).trans ((below_new V.drew _).block _ (block_lt HV6.out) |>.trans HV6.out))
          obtain ⟨-, x1, -, -⟩ := hK5
          revert hIn hTn hW6 x1
          generalize w4.setCell ⟨sb', so' + task, none⟩ (.slice (some ⟨g4, 0, none⟩) (n + 1) c4') = W
          intro hIn hTn hW6 x1
          have HTW := hide ((RTurns.of_below lab (Below.refl _ V).drew).trans ((RTurns.of_below lab (below_new V.drew _)).trans hTn))
          have HIn := hide hIn
          have hxl : w.heap.size < W.heap.size := by have := block_lt hW6; omega
          have hxa := block_lt hW6
          have HW6 := hide hW6
          clear hK1 hK2 hK3 hK4 hIY hIn hTn hW6 yrd yra HK r4 f9 hsub4 hown4 hg4 hli4 hlt4 hi hz0 hz1 hz2 f3 f4 f5 f6 f7 t1 t3 t4 tl
          go_wp2_with fail
          refine (rgen_any HIn.out ht HGl.out hGb).mono ?_
          rintro e w9 ⟨rfl, hb9⟩
          obtain ⟨b0, b1, b2, b3, b4, b5, b6, b7, b8, b9, b10, b11, bf, bl⟩ := row12 ((hb9.block _ hxa).trans HW6.out)
          go_wp2
          have hresl : Tryz.f70.results = #[.cell 6 41] := by kernel_rfl
          refine bodyPost_ret (v := anV { refS 0 with sub := n, gen := G } nilS nilS) ?_ rfl ?_
          · simp only [results, hresl]
            go_simp
            simp [refS, rg0]
          · obtain ⟨s1, s2, s3, s4⟩ := set12_same w9 (w.heap.size + 1) (.int .i64 0) (.int .i64 n) (.int .u64 G) (.int .i64 0) (.int .u64 0) (.int .i64 0) (.int .i64 0) (.bool false) (.int .i64 0) (.int .u64 0) nilS nilS
            exact rpost_up (a := { refS 0 with sub := n, gen := G }) H.out HVb.out (Nat.le_succ _) (block_lt HV6.out) (HTW.out.trans (RTurns.of_below labN hb9)) (HIn.out.below hb9) rfl rfl (rd_nil w9) (rd_nil w9) (fun q hq => by simp [Value.ownBlock] at hq) s1 s2 s3 s4 (fun i hi => set12_other hi _ _ _ _ _ _ _ _ _ _ _ _)
        exact AllReadyH.nil
      exact AllReadyH.nil
    exact AllReadyH.nil
  exact AllReadyH.nil

end Go.Proofs.YtclgmikdjcjjdaaGreatDoor
