/-
  The walk of the law BoardClones: it answers true. Conditions: a config and acts in memory; the calls' fields and the ways between modes, in memory.
-/
import Derived.Test.YtbbcajnbdebmfaaDoorBWake
import Derived.Test.YtbbcajnbdebmfaaDoorBPlays
import Derived.Test.YtbbcajnbdebmfaaDoorBFew
import Derived.Test.YtbbcajnbdebmfaaDoorBEqual
import Derived.Test.YtbbcajnbdebmfaaDoorBTrio
import Derived.Test.YtbbcajnbdebmfaaDoorBNone
import Derived.Deep.Cut
import Derived.Deep.RegionHeld3
namespace Go.Proofs.YtbbcajnbdebmfaaDoor
open Go.RowKit

/-- The first few of a row of acts. -/
theorem ActsAt.prefix {w : World} {A : Option Addr} {n c : Nat} {l : List Ac} (h : ActsAt w (.slice A n c) l) (j : Nat) (hj : j ≤ n) : ActsAt w (.slice A j c) (l.take j) := by
  obtain ⟨A', c', hv, h1, h2, h3⟩ := h
  cases hv
  have hl : (l.take j).length = j := by rw [List.length_take]; omega
  refine ⟨A, c, by rw [hl], by omega, h2, fun hp => ?_⟩
  obtain ⟨b, o, hA, hb, hat⟩ := h3 (by omega)
  refine ⟨b, o, hA, hb, fun i a ha => hat i a ?_⟩
  have hi : i < j := by have := (List.getElem?_eq_some_iff.1 ha).1; omega
  rwa [List.getElem?_take_of_lt hi] at ha

theorem map_add0 (A : Option Addr) : Option.map (fun x : Addr => x.add 0) A = A := by
  cases A <;> simp [Addr.add]

theorem slice_prefix (A : Option Addr) (n lc k : Nat) (hk : k ≤ lc) (x : World) : (Instr.sliceAt 25 (.slice A n lc) none (some (.int .i64 (k : Int))) none).run Tryd.prog x = .ok (.slice A k lc) x := by
  have h1 : (0 : Int) ≤ k := by omega
  have h2 : (k : Int) ≤ lc := by omega
  have h3 := map_add0 A
  go_simp

theorem doS_glen (S : Bd) (task : Int) (c : Cl) : (doS S task c).1.gens.length = S.gens.length := by
  unfold doS
  split
  · rfl
  · split
    · rfl
    · unfold kindS
      repeat' split
      · unfold advS; repeat' split
        all_goals rfl
      · unfold pubS; repeat' split
        all_goals first | rfl | simp
      · rfl
      · rfl
      · unfold subS; repeat' split
        all_goals rfl
      · unfold pollS; dsimp only; repeat' split
        all_goals rfl
      · rfl
      · unfold turnS; split <;> rfl
      · unfold turnS; split <;> rfl
      · rfl

set_option maxRecDepth 1000000 in
set_option maxHeartbeats 6400000 in
theorem lawclones_any (a b c : Int) (ts : List Tp) (u lv : Value) (l : List Ac) (at' : Int) (w : World) (hr : Rd w u 3 ts.length (flatT ts)) (hl : ActsAt w lv l) (hF : FieldsAt w) (hW : WaysAt w) :
    Calls Tryd.prog 8 #[cfgV a u b c, lv, .int .i64 at'] w fun e w' => e = .returned (.bool true) ∧ Below w.heap.size w w' := by
  obtain ⟨A, cc, rfl, -⟩ := id hr.shape
  have hl0 := hl
  obtain ⟨LA, lc, rfl, hl1, hl2, hopen⟩ := hl0
  obtain ⟨n, hn⟩ : ∃ n, n = l.length := ⟨_, rfl⟩
  obtain ⟨tl, htl⟩ : ∃ tl, tl = ts.length := ⟨_, rfl⟩
  have HFew := hide (fun w' (hb : Below w.heap.size w w') => few18_any a b c ts (.slice A ts.length cc) (.slice LA l.length lc) l w' (hr.below hb) (hl.below hb))
  have HAw := hide (fun w' (hb : Below w.heap.size w w') => awake_any w' (hF.below hb) (hW.below hb))
  rw [← hn] at HFew hopen hl1 hl ⊢
  rw [← htl] at HFew ⊢
  have hb0 := below_new w (cfgO a (.slice A tl cc) b c)
  have Hopen := hide hopen
  have Hn := hide hn
  have HF := hide hF
  have HW := hide hW
  by_cases hfew : (fewS ts && fewA l) = true
  · have hfw := hfew
    rw [Bool.and_eq_true] at hfw
    have hts := (few_true hfw.1).2
    have htl80 : tl ≤ 80 := by rw [htl]; exact (few_true hfw.1).1
    obtain ⟨h150, h100⟩ := fewA_true hfw.2
    have HC := hide (fun w' (hb : Below w.heap.size w w') => check_any a b c ts (.slice A ts.length cc) w' (hr.below hb) (fun t ht => by have := hts t ht; omega))
    rw [← htl] at HC
    rw [hfew] at HFew
    have h150' : n ≤ 150 := by omega
    by_cases hck : checkS a ts b c = (0, 0)
    · rw [hck] at HC
      by_cases hlo : at' < 0
      · clear hfew hfw hts h150 h100 hck hr hl hopen hn htl hF hW
        go_enter Tryd.func8, Tryd.ntmps8
        go_wp2_with fail
        refine (HFew.out _ hb0).mono ?_
        rintro e w1 ⟨rfl, hb1⟩
        have hb01 := below2 hb0 hb1
        have hT1 : w1.heap[w.heap.size]? = some (cfgO a (.slice A tl cc) b c) := (hb1.block _ (by simp)).trans (heap_alloc_new w _)
        obtain ⟨q0, q1, q2, q3, qf, ql⟩ := row4 hT1
        go_wp2_with fail
        refine (HC.out _ hb01).mono ?_
        rintro e w2 ⟨rfl, hb2⟩
        have hb02 := below2 hb01 hb2
        go_wp2_with fail
        refine (HAw.out _ hb02).mono ?_
        rintro e w9 ⟨rfl, hb9⟩
        go_wp2
        go_ret
        exact ⟨by simp, below2 hb02 hb9⟩
      · by_cases hhi : (n : Int) < at'
        · clear hfew hfw hts h150 h100 hck hr hl hopen hn htl hF hW
          go_enter Tryd.func8, Tryd.ntmps8
          go_wp2_with fail
          refine (HFew.out _ hb0).mono ?_
          rintro e w1 ⟨rfl, hb1⟩
          have hb01 := below2 hb0 hb1
          have hT1 : w1.heap[w.heap.size]? = some (cfgO a (.slice A tl cc) b c) := (hb1.block _ (by simp)).trans (heap_alloc_new w _)
          obtain ⟨q0, q1, q2, q3, qf, ql⟩ := row4 hT1
          go_wp2_with fail
          refine (HC.out _ hb01).mono ?_
          rintro e w2 ⟨rfl, hb2⟩
          have hb02 := below2 hb01 hb2
          go_wp2_with fail
          refine (HAw.out _ hb02).mono ?_
          rintro e w9 ⟨rfl, hb9⟩
          go_wp2
          go_ret
          exact ⟨by simp, below2 hb02 hb9⟩
        · obtain ⟨k0, rfl⟩ : ∃ k0 : Nat, at' = k0 := ⟨at'.toNat, by omega⟩
          have hk0 : k0 ≤ n := by omega
          have Htp := hide (show (playsS (newS a ts b c) (l.take k0)).tp.length = tl by rw [playsS_tp, htl]; rfl)
          have htk : (l.take k0).length = k0 := by rw [List.length_take]; omega
          have HPl := hide (fun w' (hb : Below w.heap.size w w') => plays_any a b c ts (.slice A ts.length cc) (.slice LA k0 lc) (l.take k0) w' (hr.below hb) ((hl.prefix k0 hk0).below hb) (hF.below hb) (hW.below hb) hck hts (by omega) (fun x hx => h100 x (List.mem_of_mem_take hx)))
          rw [htk, ← htl] at HPl
          have H100 := hide h100
          have hsl := slice_prefix LA n lc k0 (by omega)
          clear hfew hfw hts h150 h100 hck hr hl hopen hn htl hF hW htk
          go_enter Tryd.func8, Tryd.ntmps8
          go_wp2_with fail
          refine (HFew.out _ hb0).mono ?_
          rintro e w1 ⟨rfl, hb1⟩
          have hb01 := below2 hb0 hb1
          have hT1 : w1.heap[w.heap.size]? = some (cfgO a (.slice A tl cc) b c) := (hb1.block _ (by simp)).trans (heap_alloc_new w _)
          obtain ⟨q0, q1, q2, q3, qf, ql⟩ := row4 hT1
          go_wp2_with fail
          refine (HC.out _ hb01).mono ?_
          rintro e w2 ⟨rfl, hb2⟩
          have hb02 := below2 hb01 hb2
          have hT2 : w2.heap[w.heap.size]? = some (cfgO a (.slice A tl cc) b c) := (hb2.block _ (block_lt hT1)).trans hT1
          clear q0 q1 q2 q3 qf ql
          obtain ⟨q0, q1, q2, q3, qf, ql⟩ := row4 hT2
          go_wp2_with fail
          refine wp_region_ext_tail 4 (by kernel_rfl) (by kernel_rfl) (fun _ _ d _ _ h => by cases d <;> exact h) ?_
          simp only [List.take_succ_cons, List.take_zero, List.drop_succ_cons, List.drop_zero]
          repeat (first
            | go_big_quiet_skip
            | (go_big_quiet_want
               first
                 | (apply quiet_val
                    · intro wq hq
                      have hcq := hq.cells
                      have hzq := hq.lift
                      go_simp
                      try go_bits
                      first | done | with_reducible rfl
                    (try simp only [Act.put, List.setIfInBounds_toArray, List.set_cons_zero, List.set_cons_succ])
                    go_big_quiet_on)))
          refine wpQuiet_nil ?_
          intro wz hz
          go_wp2_with fail
          have hb0z := below2 hb02 hz.below
          have hTz := (hz.below.block _ (block_lt hT2)).trans hT2
          have HFz := hide (HF.out.below hb0z)
          have HWz := hide (HW.out.below hb0z)
          have Hopz := hide (fun (hp : 0 < n) => by
            obtain ⟨b1, o1, h1, h2, h3⟩ := Hopen.out hp
            exact (⟨b1, o1, h1, Nat.lt_of_lt_of_le h2 hb0z.size, fun i a ha => (h3 i a ha).below hb0z⟩ : ∃ b o, LA = some ⟨b, o, none⟩ ∧ b < wz.heap.size ∧ ∀ i a, l[i]? = some a → AcAt wz b (o + i * 12) a))
          refine (HPl.out _ hb0z).mono ?_
          rintro e w4 ⟨mb, rfl, P1, hfr1⟩
          obtain ⟨Sa, hSa⟩ : ∃ S, S = playsS (newS a ts b c) (l.take k0) := ⟨_, rfl⟩
          rw [← hSa] at P1 HPl Htp
          have HCl1 := hide (clone_any w4 P1.is)
          have HP1 := hide P1
          obtain ⟨B, hB⟩ : ∃ B, B = mb.bb := ⟨_, rfl⟩
          rw [← hB] at HCl1 ⊢
          have HB := hide hB
          have HTz := hide hTz
          have Hb0z := hide hb0z
          have hglen := P1.is.inv.glen
          clear q0 q1 q2 q3 qf ql P1 hfr1 hSa hB hTz hb0z hz hT2 hT1 hb2 hb02 hb01 hb0 hb1 HC HFew hl1 hl2
          go_wp2_with fail
          refine HCl1.out.mono ?_
          rintro e x1 ⟨md, rfl, hd, hbd, hod, hrd⟩
          have HCl2 := hide (clone_any x1 (HP1.out.is.below hbd))
          rw [← HB.out] at HCl2
          obtain ⟨D, hD⟩ : ∃ D, D = md.bb := ⟨_, rfl⟩
          rw [← hD]
          have HD' := hide hD
          have Hcl := hide (And.intro hd (And.intro hbd (And.intro hod hrd)))
          clear HCl1 hd hbd hod hrd hD
          go_wp2_with fail
          refine HCl2.out.mono ?_
          rintro e x2 ⟨mt, rfl, ht, hbt, hot, hrt⟩
          obtain ⟨hd, hbd, hod, hrd⟩ := Hcl.out
          have HT0 := hide (Trio.start (w := wz) (v := x2) (HP1.out.on hbd) HP1.out.is hd hod hrd HP1.out.below.size (below2 (below2 HP1.out.below hbd) hbt) hbt ht hot hrt (below2 HP1.out.below hbd).size)
          obtain ⟨E, hE⟩ : ∃ E, E = mt.bb := ⟨_, rfl⟩
          rw [← hE]
          have HE' := hide hE
          have hglt : Sa.gens.length = tl := hglen.trans Htp.out
          have Hglt := hide hglt
          clear HCl2 ht hbt hot hrt hd hbd hod hrd hE Hcl hglen hglt
          go_wp2_with fail
          go_loopw [10] (fun i wr => ∃ (k : Nat) (mb md : Mem) (S : Bd), k0 ≤ k ∧ k ≤ n ∧ i = .int .i64 k ∧ mb.bb = B ∧ md.bb = D ∧ Hid (Trio wz wr k k k0 mb md mt S S Sa) ∧ Hid (S.gens.length = tl)) (fun i _ => n - (intOf i).toNat)
          case atStart => exact ⟨k0, mb, md, Sa, Nat.le_refl _, hk0, rfl, HB.out.symm, HD'.out.symm, HT0, Hglt⟩
          case round =>
            clear HT0 HP1
            obtain ⟨k, mb, md, S, hk0k, hk, rfl, hmb, hmd, HT, HgS⟩ := hrel
            by_cases hlt : k < n
            · obtain ⟨b1, o1, rfl, hblt, hat⟩ := Hopz.out (by omega)
              obtain ⟨⟨task, ⟨kd, tp, sb, cp, rk, so, md', fl, fr, set, ws⟩, sv, wv⟩, hx⟩ : ∃ x, l[k]? = some x := ⟨l[k]'(by have := Hn.out; omega), by simp⟩
              have hA := hat k _ hx
              obtain ⟨hs100, hw100⟩ := H100.out _ (List.mem_of_getElem? hx)
              have HD := hide (fun x (hb : Below wr.heap.size wr x) => (HT.out.b.on hb).acts HFz.out HWz.out (by omega) hA hs100 hw100)
              have HE := hide (fun x m (P : Play wz x k m S) => P.acts HFz.out HWz.out (by omega) hA hs100 hw100)
              obtain ⟨X, hX⟩ : ∃ X, X = doS S task ⟨kd, tp, sb, cp, rk, so, md', fl, fr, set, ws⟩ := ⟨_, rfl⟩
              have hgX : X.1.gens.length = tl := by rw [hX, doS_glen]; exact HgS.out
              simp only at HD HE
              rw [← hX, hmb] at HD
              rw [← hX] at HE
              have hki : (k : Int) < (n : Int) := by omega
              have HK : ∀ x, Below wz.heap.size wz x → x.cell? ⟨b1, o1 + k * 12, none⟩ = some (.int .i64 task) ∧ x.cell? ⟨b1, o1 + k * 12 + 1, none⟩ = some (.int .i64 kd) ∧ x.cell? ⟨b1, o1 + k * 12 + 2, none⟩ = some (.int .i64 tp) ∧ x.cell? ⟨b1, o1 + k * 12 + 3, none⟩ = some (.int .i64 sb) ∧ x.cell? ⟨b1, o1 + k * 12 + 4, none⟩ = some (.int .i64 cp) ∧ x.cell? ⟨b1, o1 + k * 12 + 5, none⟩ = some (.int .i64 rk) ∧ x.cell? ⟨b1, o1 + k * 12 + 6, none⟩ = some (.int .i64 so) ∧ x.cell? ⟨b1, o1 + k * 12 + 7, none⟩ = some (.int .i64 md') ∧ x.cell? ⟨b1, o1 + k * 12 + 8, none⟩ = some (.int .i64 fl) ∧ x.cell? ⟨b1, o1 + k * 12 + 9, none⟩ = some (.bool fr) ∧ x.cell? ⟨b1, o1 + k * 12 + 10, none⟩ = some (sv) ∧ x.cell? ⟨b1, o1 + k * 12 + 11, none⟩ = some (wv) ∧ Below wz.heap.size wz x := fun x hb => by
                have h := hA.below hb
                exact ⟨h.c0, h.c1, h.c2, h.c3, h.c4, h.c5, h.c6, h.c7, h.c8, h.c9, h.c10, h.c11, hb⟩
              have hb1 : b1 < wr.heap.size := Nat.lt_of_lt_of_le hblt HT.out.b.below.size
              have Hmb := hide hmb
              have Hmd := hide hmd
              have HK0 := hide HK
              have HgX := hide hgX
              clear hX hat hx hA hs100 hw100 hmb hmd HK hgX
              go_upto_region 13 with fail
              have HK1 := HK0.out _ HT.out.b.below.drew
              have hB0 : Below wr.heap.size wr wr.drew := (Below.refl _ _).drew
              have hBa : Below wr.heap.size wr (wr.alloc anZ).drew := (below_new wr anZ).drew
              have hwa : Below wz.heap.size wz (wr.alloc anZ).drew := (below2 HT.out.b.below (below_new wr anZ)).drew
              have hwa0 : Below wz.heap.size wz (wr.alloc anZ) := below2 HT.out.b.below (below_new wr anZ)
              have hg9 : wz.heap.size ≤ wr.heap.size := HT.out.b.below.size
              have hZa : ∀ x m2, Turns (wr.alloc anZ).drew x mb m2 → x.heap[wr.heap.size]? = some anZ := fun x m2 hT => (hT.block wr.heap.size (by simp) (fun ho => by have := HT.out.lt _ (Or.inl (Or.inl ho)); omega)).trans (heap_alloc_new wr anZ)
              go_region_held3 (fun x => x.cell? ⟨b1, o1 + k * 12, none⟩ = some (.int .i64 task) ∧ x.cell? ⟨b1, o1 + k * 12 + 1, none⟩ = some (.int .i64 kd) ∧ x.cell? ⟨b1, o1 + k * 12 + 2, none⟩ = some (.int .i64 tp) ∧ x.cell? ⟨b1, o1 + k * 12 + 3, none⟩ = some (.int .i64 sb) ∧ x.cell? ⟨b1, o1 + k * 12 + 4, none⟩ = some (.int .i64 cp) ∧ x.cell? ⟨b1, o1 + k * 12 + 5, none⟩ = some (.int .i64 rk) ∧ x.cell? ⟨b1, o1 + k * 12 + 6, none⟩ = some (.int .i64 so) ∧ x.cell? ⟨b1, o1 + k * 12 + 7, none⟩ = some (.int .i64 md') ∧ x.cell? ⟨b1, o1 + k * 12 + 8, none⟩ = some (.int .i64 fl) ∧ x.cell? ⟨b1, o1 + k * 12 + 9, none⟩ = some (.bool fr) ∧ x.cell? ⟨b1, o1 + k * 12 + 10, none⟩ = some (sv) ∧ x.cell? ⟨b1, o1 + k * 12 + 11, none⟩ = some (wv) ∧ Below wz.heap.size wz x)
                (first | with_reducible assumption | with_reducible exact HK1 | (refine HK0.out _ ?_; (repeat refine Below.setCell ?_ hg9 _); first | with_reducible assumption | with_reducible exact hwa | with_reducible exact hwa0 | with_reducible exact below2 hwA (below_new _ _)))
                (first | (go_at_call 13; refine (HD.out _ (by first | with_reducible exact hB0 | with_reducible exact hBa)).mono ?_; rintro e v2 ⟨m2, gv, wv2, rfl, P2, hT2, hgv, hwv, hfv⟩; obtain ⟨Ag, kg, rfl, -⟩ := (Rd.of_own hgv).shape; obtain ⟨Aw, kw, rfl, -⟩ := (Rd.of_own hwv).shape; have hwA := P2.below; try (have hy : v2.heap[wr.heap.size]? = some anZ := (by with_reducible exact hZa _ _ hT2); obtain ⟨y0, y1, y2, y3, y4, y5, y6, y7, y8, y9, y10, y11, yf, yl⟩ := row12 hy)))
              all_goals first
                | (obtain ⟨y, hye⟩ : ∃ yy, yy = v2.alloc (anO X.2 (.slice Ag X.2.gens.length kg) (.slice Aw X.2.words.length kw)) := ⟨_, rfl⟩
                   have hR9 : y.heap[v2.heap.size]? = some (anO X.2 (.slice Ag X.2.gens.length kg) (.slice Aw X.2.words.length kw)) := (by rw [hye]; exact heap_alloc_new v2 _)
                   have hyB : Below v2.heap.size v2 y := (by rw [hye]; exact below_new v2 _)
                   rw [← hye]
                   have HTX := hide ((((HT.out.on hB0).actb P2 hT2)).on hyB)
                   have HgX9 := hide (own_low (own_below hgv hyB))
                   have HwX9 := hide (own_low (own_below hwv hyB))
                   have hfr : ∀ q, (Value.slice Ag X.2.gens.length kg).ownBlock = some q ∨ (Value.slice Aw X.2.words.length kw).ownBlock = some q → wr.heap.size ≤ q ∧ q < y.heap.size ∧ q ≠ v2.heap.size := (fun q hq => hq.elim (fun h => ⟨Nat.le_trans hB0.size (hgv.lt q h).1, Nat.lt_of_lt_of_le (hgv.lt q h).2 hyB.size, Nat.ne_of_lt (hgv.lt q h).2⟩) (fun h => ⟨Nat.le_trans hB0.size (hwv.lt q h).1, Nat.lt_of_lt_of_le (hwv.lt q h).2 hyB.size, Nat.ne_of_lt (hwv.lt q h).2⟩))
                   have hold : ∀ i, i < wr.heap.size → ¬ mb.own i → y.heap[i]? = wr.heap[i]? := (fun i hi ho => (hyB.block i (Nat.lt_of_lt_of_le hi hT2.size)).trans (hT2.block i hi ho))
                   have hgsz : wr.heap.size ≤ v2.heap.size := Nat.le_trans hB0.size hT2.size
                   have hysz : wr.heap.size ≤ y.heap.size := Nat.le_trans hgsz hyB.size
                   clear hye hyB
                   generalize v2.heap.size = g9 at *)
                | (obtain ⟨y, hye⟩ : ∃ yy, yy = (((((((((((v2.setCell ⟨wr.heap.size, 0, none⟩ (.int .i64 X.2.code)).setCell ⟨wr.heap.size, 1, none⟩ (.int .i64 X.2.sub)).setCell ⟨wr.heap.size, 2, none⟩ (.int .u64 X.2.gen)).setCell ⟨wr.heap.size, 3, none⟩ (.int .i64 X.2.count)).setCell ⟨wr.heap.size, 4, none⟩ (.int .u64 X.2.lost)).setCell ⟨wr.heap.size, 5, none⟩ (.int .i64 X.2.st.mode)).setCell ⟨wr.heap.size, 6, none⟩ (.int .i64 X.2.st.source)).setCell ⟨wr.heap.size, 7, none⟩ (.bool X.2.st.hold)).setCell ⟨wr.heap.size, 8, none⟩ (.int .i64 X.2.st.flags)).setCell ⟨wr.heap.size, 9, none⟩ (.int .u64 X.2.st.epoch)).setCell ⟨wr.heap.size, 10, none⟩ (.slice Ag X.2.gens.length kg)).setCell ⟨wr.heap.size, 11, none⟩ (.slice Aw X.2.words.length kw) := ⟨_, rfl⟩
                   have hR9 : y.heap[wr.heap.size]? = some (anO X.2 (.slice Ag X.2.gens.length kg) (.slice Aw X.2.words.length kw)) := (by rw [hye]; exact set12 hy (.int .i64 X.2.code) (.int .i64 X.2.sub) (.int .u64 X.2.gen) (.int .i64 X.2.count) (.int .u64 X.2.lost) (.int .i64 X.2.st.mode) (.int .i64 X.2.st.source) (.bool X.2.st.hold) (.int .i64 X.2.st.flags) (.int .u64 X.2.st.epoch) (.slice Ag X.2.gens.length kg) (.slice Aw X.2.words.length kw))
                   have hyo : ∀ q, q ≠ wr.heap.size → y.heap[q]? = v2.heap[q]? := (fun q hq => by rw [hye]; exact set12_other hq (.int .i64 X.2.code) (.int .i64 X.2.sub) (.int .u64 X.2.gen) (.int .i64 X.2.count) (.int .u64 X.2.lost) (.int .i64 X.2.st.mode) (.int .i64 X.2.st.source) (.bool X.2.st.hold) (.int .i64 X.2.st.flags) (.int .u64 X.2.st.epoch) (.slice Ag X.2.gens.length kg) (.slice Aw X.2.words.length kw))
                   have hyw : Below wz.heap.size wz y := (by rw [hye]; exact set12_below P2.below hg9 (.int .i64 X.2.code) (.int .i64 X.2.sub) (.int .u64 X.2.gen) (.int .i64 X.2.count) (.int .u64 X.2.lost) (.int .i64 X.2.st.mode) (.int .i64 X.2.st.source) (.bool X.2.st.hold) (.int .i64 X.2.st.flags) (.int .u64 X.2.st.epoch) (.slice Ag X.2.gens.length kg) (.slice Aw X.2.words.length kw))
                   obtain ⟨z1, z2, z3, z4⟩ := set12_same v2 wr.heap.size (.int .i64 X.2.code) (.int .i64 X.2.sub) (.int .u64 X.2.gen) (.int .i64 X.2.count) (.int .u64 X.2.lost) (.int .i64 X.2.st.mode) (.int .i64 X.2.st.source) (.bool X.2.st.hold) (.int .i64 X.2.st.flags) (.int .u64 X.2.st.epoch) (.slice Ag X.2.gens.length kg) (.slice Aw X.2.words.length kw)
                   have hys : y.heap.size = v2.heap.size := (by rw [hye]; exact z4)
                   rw [← hye]
                   have hba : (wr.alloc anZ).drew.heap.size = wr.heap.size + 1 := (by simp)
                   have hgl : ∀ q, (Value.slice Ag X.2.gens.length kg).ownBlock = some q → wr.heap.size + 1 ≤ q ∧ q < v2.heap.size := (fun q hq => by have h := hgv.lt q hq; exact ⟨by rw [← hba]; exact h.1, h.2⟩)
                   have hwl : ∀ q, (Value.slice Aw X.2.words.length kw).ownBlock = some q → wr.heap.size + 1 ≤ q ∧ q < v2.heap.size := (fun q hq => by have h := hwv.lt q hq; exact ⟨by rw [← hba]; exact h.1, h.2⟩)
                   have hTv := (HT.out.on hBa).actb P2 hT2
                   have HTX := hide (hTv.frame (v := y) (by omega) hyw (fun i hi => hyo i (fun hie => by
                     subst hie
                     rcases any_b hT2 hi with h1 | h1
                     · have := HT.out.lt _ h1; omega
                     · simp at h1; omega)))
                   have HgX9 := hide (own_low (own_keepAt hgv (w' := y) (fun q hq => hyo q (by have := (hgl q hq).1; omega))))
                   have HwX9 := hide (own_low (own_keepAt hwv (w' := y) (fun q hq => hyo q (by have := (hwl q hq).1; omega))))
                   have hfr : ∀ q, (Value.slice Ag X.2.gens.length kg).ownBlock = some q ∨ (Value.slice Aw X.2.words.length kw).ownBlock = some q → wr.heap.size ≤ q ∧ q < y.heap.size ∧ q ≠ wr.heap.size := (fun q hq => hq.elim (fun h => by have := hgl q h; omega) (fun h => by have := hwl q h; omega))
                   have hold : ∀ i, i < wr.heap.size → ¬ mb.own i → y.heap[i]? = wr.heap[i]? := (fun i hi ho => (hyo i (by omega)).trans ((hT2.block i (by simp; omega) ho).trans ((below_new wr anZ).block i hi)))
                   have hgsz : wr.heap.size ≤ wr.heap.size := Nat.le_refl _
                   have hysz : wr.heap.size ≤ y.heap.size := (by have h := hT2.size; rw [hba] at h; omega)
                   clear z1 z2 z3 z4 hye hyo hyw hys hba hgl hwl hTv hy y0 y1 y2 y3 y4 y5 y6 y7 y8 y9 y10 y11 yf yl
                   obtain ⟨g9, hgg⟩ : ∃ g, g = wr.heap.size := ⟨_, rfl⟩
                   rw [← hgg] at hR9 ⊢
                   have hgsz : wr.heap.size ≤ g9 := (by omega)
                   have hfr : ∀ q, (Value.slice Ag X.2.gens.length kg).ownBlock = some q ∨ (Value.slice Aw X.2.words.length kw).ownBlock = some q → wr.heap.size ≤ q ∧ q < y.heap.size ∧ q ≠ g9 := (by rw [hgg]; exact hfr)
                   clear hgg)
              all_goals (
                have hm2 : m2.bb = B := hT2.bb.trans Hmb.out
                have Hm2 := hide hm2
                have HfrX := hide hfr
                have HfvX := hide hfv
                have HoldX := hide hold
                have Hgsz := hide hgsz
                have hb1y : b1 < y.heap.size := (by omega)
                have HEy := hide (fun x (hb : Below y.heap.size y x) => HE.out x md (HTX.out.d.on hb))
                rw [Hmd.out] at HEy
                have hTX := HTX.out
                clear hm2 hfr hold hgsz P2 hT2 hgv hwv hfv hwA HK1 hB0 hBa hwa hwa0 hZa HD hg9 hTX hysz
                go_upto_region 14 with fail
                have HK1 := HK0.out _ HTX.out.b.below.drew
                have hB0 : Below y.heap.size y y.drew := (Below.refl _ _).drew
                have hBa : Below y.heap.size y (y.alloc anZ).drew := (below_new y anZ).drew
                have hwa : Below wz.heap.size wz (y.alloc anZ).drew := (below2 HTX.out.b.below (below_new y anZ)).drew
                have hwa0 : Below wz.heap.size wz (y.alloc anZ) := below2 HTX.out.b.below (below_new y anZ)
                have hg9 : wz.heap.size ≤ y.heap.size := HTX.out.b.below.size
                have hZa : ∀ x m2, Turns (y.alloc anZ).drew x md m2 → x.heap[y.heap.size]? = some anZ := fun x m2 hT => (hT.block y.heap.size (by simp) (fun ho => by have := HTX.out.lt _ (Or.inr (Or.inl (Or.inl ho))); omega)).trans (heap_alloc_new y anZ)
                go_region_held3 (fun x => x.cell? ⟨b1, o1 + k * 12, none⟩ = some (.int .i64 task) ∧ x.cell? ⟨b1, o1 + k * 12 + 1, none⟩ = some (.int .i64 kd) ∧ x.cell? ⟨b1, o1 + k * 12 + 2, none⟩ = some (.int .i64 tp) ∧ x.cell? ⟨b1, o1 + k * 12 + 3, none⟩ = some (.int .i64 sb) ∧ x.cell? ⟨b1, o1 + k * 12 + 4, none⟩ = some (.int .i64 cp) ∧ x.cell? ⟨b1, o1 + k * 12 + 5, none⟩ = some (.int .i64 rk) ∧ x.cell? ⟨b1, o1 + k * 12 + 6, none⟩ = some (.int .i64 so) ∧ x.cell? ⟨b1, o1 + k * 12 + 7, none⟩ = some (.int .i64 md') ∧ x.cell? ⟨b1, o1 + k * 12 + 8, none⟩ = some (.int .i64 fl) ∧ x.cell? ⟨b1, o1 + k * 12 + 9, none⟩ = some (.bool fr) ∧ x.cell? ⟨b1, o1 + k * 12 + 10, none⟩ = some (sv) ∧ x.cell? ⟨b1, o1 + k * 12 + 11, none⟩ = some (wv) ∧ Below wz.heap.size wz x)
                  (first | with_reducible assumption | with_reducible exact HK1 | (refine HK0.out _ ?_; (repeat refine Below.setCell ?_ hg9 _); first | with_reducible assumption | with_reducible exact hwa | with_reducible exact hwa0 | with_reducible exact below2 hwA (below_new _ _)))
                  (first | (go_at_call 13; refine (HEy.out _ (by first | with_reducible exact hB0 | with_reducible exact hBa)).mono ?_; rintro e v4 ⟨m3, gv, wv2, rfl, P2, hT2, hgv, hwv, hfv⟩; obtain ⟨Bg, jg, rfl, -⟩ := (Rd.of_own hgv).shape; obtain ⟨Bw, jw, rfl, -⟩ := (Rd.of_own hwv).shape; have hwA := P2.below; try (have hy : v4.heap[y.heap.size]? = some anZ := (by with_reducible exact hZa _ _ hT2); obtain ⟨y0, y1, y2, y3, y4, y5, y6, y7, y8, y9, y10, y11, yf, yl⟩ := row12 hy)))
                all_goals first
                  | (obtain ⟨yz, hye⟩ : ∃ yy, yy = v4.alloc (anO X.2 (.slice Bg X.2.gens.length jg) (.slice Bw X.2.words.length jw)) := ⟨_, rfl⟩
                     have hRY : yz.heap[v4.heap.size]? = some (anO X.2 (.slice Bg X.2.gens.length jg) (.slice Bw X.2.words.length jw)) := (by rw [hye]; exact heap_alloc_new v4 _)
                     have hyB : Below v4.heap.size v4 yz := (by rw [hye]; exact below_new v4 _)
                     rw [← hye]
                     have HTY := hide ((((HTX.out.on hB0).actd P2 hT2)).on hyB)
                     have HgY9 := hide (own_low (own_below hgv hyB))
                     have HwY9 := hide (own_low (own_below hwv hyB))
                     have hfr : ∀ q, (Value.slice Bg X.2.gens.length jg).ownBlock = some q ∨ (Value.slice Bw X.2.words.length jw).ownBlock = some q → y.heap.size ≤ q ∧ q < yz.heap.size ∧ q ≠ v4.heap.size := (fun q hq => hq.elim (fun h => ⟨Nat.le_trans hB0.size (hgv.lt q h).1, Nat.lt_of_lt_of_le (hgv.lt q h).2 hyB.size, Nat.ne_of_lt (hgv.lt q h).2⟩) (fun h => ⟨Nat.le_trans hB0.size (hwv.lt q h).1, Nat.lt_of_lt_of_le (hwv.lt q h).2 hyB.size, Nat.ne_of_lt (hwv.lt q h).2⟩))
                     have hold : ∀ i, i < y.heap.size → ¬ md.own i → yz.heap[i]? = y.heap[i]? := (fun i hi ho => (hyB.block i (Nat.lt_of_lt_of_le hi hT2.size)).trans (hT2.block i hi ho))
                     have hgsz : y.heap.size ≤ v4.heap.size := Nat.le_trans hB0.size hT2.size
                     have hysz : y.heap.size ≤ yz.heap.size := Nat.le_trans hgsz hyB.size
                     clear hye hyB
                     generalize v4.heap.size = gY at *)
                  | (obtain ⟨yz, hye⟩ : ∃ yy, yy = (((((((((((v4.setCell ⟨y.heap.size, 0, none⟩ (.int .i64 X.2.code)).setCell ⟨y.heap.size, 1, none⟩ (.int .i64 X.2.sub)).setCell ⟨y.heap.size, 2, none⟩ (.int .u64 X.2.gen)).setCell ⟨y.heap.size, 3, none⟩ (.int .i64 X.2.count)).setCell ⟨y.heap.size, 4, none⟩ (.int .u64 X.2.lost)).setCell ⟨y.heap.size, 5, none⟩ (.int .i64 X.2.st.mode)).setCell ⟨y.heap.size, 6, none⟩ (.int .i64 X.2.st.source)).setCell ⟨y.heap.size, 7, none⟩ (.bool X.2.st.hold)).setCell ⟨y.heap.size, 8, none⟩ (.int .i64 X.2.st.flags)).setCell ⟨y.heap.size, 9, none⟩ (.int .u64 X.2.st.epoch)).setCell ⟨y.heap.size, 10, none⟩ (.slice Bg X.2.gens.length jg)).setCell ⟨y.heap.size, 11, none⟩ (.slice Bw X.2.words.length jw) := ⟨_, rfl⟩
                     have hRY : yz.heap[y.heap.size]? = some (anO X.2 (.slice Bg X.2.gens.length jg) (.slice Bw X.2.words.length jw)) := (by rw [hye]; exact set12 hy (.int .i64 X.2.code) (.int .i64 X.2.sub) (.int .u64 X.2.gen) (.int .i64 X.2.count) (.int .u64 X.2.lost) (.int .i64 X.2.st.mode) (.int .i64 X.2.st.source) (.bool X.2.st.hold) (.int .i64 X.2.st.flags) (.int .u64 X.2.st.epoch) (.slice Bg X.2.gens.length jg) (.slice Bw X.2.words.length jw))
                     have hyo : ∀ q, q ≠ y.heap.size → yz.heap[q]? = v4.heap[q]? := (fun q hq => by rw [hye]; exact set12_other hq (.int .i64 X.2.code) (.int .i64 X.2.sub) (.int .u64 X.2.gen) (.int .i64 X.2.count) (.int .u64 X.2.lost) (.int .i64 X.2.st.mode) (.int .i64 X.2.st.source) (.bool X.2.st.hold) (.int .i64 X.2.st.flags) (.int .u64 X.2.st.epoch) (.slice Bg X.2.gens.length jg) (.slice Bw X.2.words.length jw))
                     have hyw : Below wz.heap.size wz yz := (by rw [hye]; exact set12_below P2.below hg9 (.int .i64 X.2.code) (.int .i64 X.2.sub) (.int .u64 X.2.gen) (.int .i64 X.2.count) (.int .u64 X.2.lost) (.int .i64 X.2.st.mode) (.int .i64 X.2.st.source) (.bool X.2.st.hold) (.int .i64 X.2.st.flags) (.int .u64 X.2.st.epoch) (.slice Bg X.2.gens.length jg) (.slice Bw X.2.words.length jw))
                     obtain ⟨z1, z2, z3, z4⟩ := set12_same v4 y.heap.size (.int .i64 X.2.code) (.int .i64 X.2.sub) (.int .u64 X.2.gen) (.int .i64 X.2.count) (.int .u64 X.2.lost) (.int .i64 X.2.st.mode) (.int .i64 X.2.st.source) (.bool X.2.st.hold) (.int .i64 X.2.st.flags) (.int .u64 X.2.st.epoch) (.slice Bg X.2.gens.length jg) (.slice Bw X.2.words.length jw)
                     have hys : yz.heap.size = v4.heap.size := (by rw [hye]; exact z4)
                     rw [← hye]
                     have hba : (y.alloc anZ).drew.heap.size = y.heap.size + 1 := (by simp)
                     have hgl : ∀ q, (Value.slice Bg X.2.gens.length jg).ownBlock = some q → y.heap.size + 1 ≤ q ∧ q < v4.heap.size := (fun q hq => by have h := hgv.lt q hq; exact ⟨by rw [← hba]; exact h.1, h.2⟩)
                     have hwl : ∀ q, (Value.slice Bw X.2.words.length jw).ownBlock = some q → y.heap.size + 1 ≤ q ∧ q < v4.heap.size := (fun q hq => by have h := hwv.lt q hq; exact ⟨by rw [← hba]; exact h.1, h.2⟩)
                     have hTv := (HTX.out.on hBa).actd P2 hT2
                     have HTY := hide (hTv.frame (v := yz) (by omega) hyw (fun i hi => hyo i (fun hie => by
                       subst hie
                       rcases any_d hT2 hi with h1 | h1
                       · have := HTX.out.lt _ h1; omega
                       · simp at h1; omega)))
                     have HgY9 := hide (own_low (own_keepAt hgv (w' := yz) (fun q hq => hyo q (by have := (hgl q hq).1; omega))))
                     have HwY9 := hide (own_low (own_keepAt hwv (w' := yz) (fun q hq => hyo q (by have := (hwl q hq).1; omega))))
                     have hfr : ∀ q, (Value.slice Bg X.2.gens.length jg).ownBlock = some q ∨ (Value.slice Bw X.2.words.length jw).ownBlock = some q → y.heap.size ≤ q ∧ q < yz.heap.size ∧ q ≠ y.heap.size := (fun q hq => hq.elim (fun h => by have := hgl q h; omega) (fun h => by have := hwl q h; omega))
                     have hold : ∀ i, i < y.heap.size → ¬ md.own i → yz.heap[i]? = y.heap[i]? := (fun i hi ho => (hyo i (by omega)).trans ((hT2.block i (by simp; omega) ho).trans ((below_new y anZ).block i hi)))
                     have hgsz : y.heap.size ≤ y.heap.size := Nat.le_refl _
                     have hysz : y.heap.size ≤ yz.heap.size := (by have h := hT2.size; rw [hba] at h; omega)
                     clear z1 z2 z3 z4 hye hyo hyw hys hba hgl hwl hTv hy y0 y1 y2 y3 y4 y5 y6 y7 y8 y9 y10 y11 yf yl
                     obtain ⟨gY, hgg⟩ : ∃ g, g = y.heap.size := ⟨_, rfl⟩
                     rw [← hgg] at hRY ⊢
                     have hgsz : y.heap.size ≤ gY := (by omega)
                     have hfr : ∀ q, (Value.slice Bg X.2.gens.length jg).ownBlock = some q ∨ (Value.slice Bw X.2.words.length jw).ownBlock = some q → y.heap.size ≤ q ∧ q < yz.heap.size ∧ q ≠ gY := (by rw [hgg]; exact hfr)
                     clear hgg)
                all_goals (
                  have hm3 : m3.bb = D := hT2.bb.trans Hmd.out
                  have Hm3 := hide hm3
                  have hmdlt : ∀ i, md.own i ∨ md.ro i → i < wr.heap.size := (fun i hi => HT.out.d.is.lt i hi)
                  have hmtlt : ∀ i, mt.own i ∨ mt.ro i → i < wr.heap.size := (fun i hi => HT.out.t.is.lt i hi)
                  have HnX := hide (show ∀ q, (Value.slice Ag X.2.gens.length kg).ownBlock = some q ∨ (Value.slice Aw X.2.words.length kw).ownBlock = some q → ¬ Any3 m2 m3 mt q from fun q hq hi => by
                    obtain ⟨h1, h2, h3⟩ := HfrX.out q hq
                    rcases any_d hT2 hi with h | h
                    · rcases h with h | h | h
                      · exact h.elim (HfvX.out q hq).1 (HfvX.out q hq).2
                      · have := hmdlt q h; omega
                      · have := hmtlt q h; omega
                    · simp at h; omega)
                  have hR9' := (hold g9 (block_lt hR9) (fun ho => by have := hmdlt _ (.inl ho); have := Hgsz.out; omega)).trans hR9
                  have HgXz := hide (own_keepAt HgX9.out (w' := yz) (fun q hq => hold q (HfrX.out q (.inl hq)).2.1 (fun ho => by have := hmdlt _ (.inl ho); have := (HfrX.out q (.inl hq)).1; omega)))
                  have HwXz := hide (own_keepAt HwX9.out (w' := yz) (fun q hq => hold q (HfrX.out q (.inr hq)).2.1 (fun ho => by have := hmdlt _ (.inl ho); have := (HfrX.out q (.inr hq)).1; omega)))
                  have Hwr := hide HT.out.b.below.size
                  clear hm3 hmdlt hmtlt hold hfr hgsz P2 hT2 hgv hwv hfv hwA HK1 hB0 hBa hwa hwa0 hZa HEy hg9 hysz hR9 HgX9 HwX9 HoldX HfvX HT HTX HE HK0 hb1y
                  obtain ⟨X1, ⟨cd, qs, qg, qc, ql, ⟨r1, r2, r3, r4, r5⟩, gens, words⟩⟩ := X
                  simp only at hR9' hRY HgXz HwXz HgY9 HwY9 HnX HfrX HgX
                  obtain ⟨d0, d1, d2, d3, d4, d5, d6, d7, d8, d9, d10, d11, df, dl⟩ := row12 hR9'
                  obtain ⟨i0, i1, i2, i3, i4, i5, i6, i7, i8, i9, i10, i11, if', il⟩ := row12 hRY
                  have HEq := hide (equal_any ⟨cd, qs, qg, qc, ql, ⟨r1, r2, r3, r4, r5⟩, gens, words⟩ (.slice Ag gens.length kg) (.slice Aw words.length kw) (.slice Bg gens.length jg) (.slice Bw words.length jw) yz (Rd.of_own HgXz.out) (Rd.of_own HwXz.out) (Rd.of_own HgY9.out) (Rd.of_own HwY9.out))
                  go_wp2_with fail
                  refine HEq.out.mono ?_
                  rintro e z3 ⟨rfl, hb3⟩
                  have hz9 := (hb3.block _ dl).trans hR9'
                  have HT3 := hide (HTY.out.on hb3)
                  have hov := Ovr.start (RowOk.of_own (own_below HwXz.out hb3)) (RowOk.of_own (own_below HgXz.out hb3))
                  obtain ⟨hng, hnw⟩ : gens.length ≤ 9223372036854775807 ∧ words.length ≤ 9223372036854775807 := (by
                    have h1 := (Rd.of_own HgXz.out).shape
                    have h2 := (Rd.of_own HwXz.out).shape
                    obtain ⟨_, _, e1, a1, a2, -⟩ := h1
                    obtain ⟨_, _, e2, b1, b2, -⟩ := h2
                    unfold maxLen at a2 b2
                    omega)
                  have Hz9 := hide hz9
                  have Hov := hide hov
                  clear d0 d1 d2 d3 d4 d5 d6 d7 d8 d9 d10 d11 df dl i0 i1 i2 i3 i4 i5 i6 i7 i8 i9 i10 i11 if' il HEq hz9 hov hb3 hR9' hRY HgXz HwXz HgY9 HwY9 HTY
                  obtain ⟨pg, hpg⟩ : ∃ p, p = gens.length := ⟨_, rfl⟩
                  obtain ⟨pw, hpw⟩ : ∃ p, p = words.length := ⟨_, rfl⟩
                  rw [← hpg] at hng Hov Hz9 HnX HfrX
                  rw [← hpw] at hnw Hov Hz9 HnX HfrX
                  simp only [← hpg, ← hpw]
                  clear hpg hpw
                  have H9 := hide (show ∀ x, Ovr z3 x (.slice Aw pw kw) (.slice Ag pg kg) pw pg → x.heap[g9]? = some (.cells #[.int .i64 cd, .int .i64 qs, .int .u64 qg, .int .i64 qc, .int .u64 ql, .int .i64 r1, .int .i64 r2, .bool r3, .int .i64 r4, .int .u64 r5, .slice Ag pg kg, .slice Aw pw kw] 45) from fun x h => (h.block g9 (fun e => (HfrX.out g9 (.inr e)).2.2 rfl) (fun e => (HfrX.out g9 (.inl e)).2.2 rfl)).trans Hz9.out)
                  go_wp2_with fail
                  go_loopw [13] (fun i wq => ∃ q : Nat, q ≤ pw ∧ i = .int .i64 q ∧ Hid (Ovr z3 wq (.slice Aw pw kw) (.slice Ag pg kg) pw pg)) (fun i _ => pw - (intOf i).toNat)
                  case atStart => exact ⟨0, Nat.zero_le _, rfl, Hov⟩
                  case round =>
                    obtain ⟨q, hq, rfl, hO⟩ := hrel
                    obtain ⟨d0, d1, d2, d3, d4, d5, d6, d7, d8, d9, d10, d11, df, dl⟩ := row12 (H9.out _ hO.out)
                    by_cases hqp : q < pw
                    · obtain ⟨gw, cw, uw, hv, hc, hf, hlw⟩ := hO.out.rv.cell hqp
                      cases hv
                      have hqi : (q : Int) < (pw : Int) := (by omega)
                      go_wp2
                      go_roundw
                      case rel => exact ⟨q + 1, by omega, by go_num, hide (hO.out.set (.inl rfl) _)⟩
                      case measure => simp [intOf]; omega
                    · have hqe : q = pw := (by omega)
                      subst hqe
                      clear hqp Hov
                      go_wp2_with fail
                      clear d0 d1 d2 d3 d4 d5 d6 d7 d8 d9 d10 d11 df dl
                      go_loopw [14] (fun i wq => ∃ r : Nat, r ≤ pg ∧ i = .int .i64 r ∧ Hid (Ovr z3 wq (.slice Aw q kw) (.slice Ag pg kg) q pg)) (fun i _ => pg - (intOf i).toNat)
                      case atStart => exact ⟨0, Nat.zero_le _, rfl, hO⟩
                      case round =>
                        clear hO
                        obtain ⟨r, hr, rfl, hO⟩ := hrel
                        obtain ⟨d0, d1, d2, d3, d4, d5, d6, d7, d8, d9, d10, d11, df, dl⟩ := row12 (H9.out _ hO.out)
                        by_cases hrp : r < pg
                        · obtain ⟨gw, cw, uw, hv, hc, hf, hlw⟩ := hO.out.ru.cell hrp
                          cases hv
                          have hri : (r : Int) < (pg : Int) := (by omega)
                          go_wp2
                          go_roundw
                          case rel => exact ⟨r + 1, by omega, by go_num, hide (hO.out.set (.inr rfl) _)⟩
                          case measure => simp [intOf]; omega
                        · have hre : r = pg := (by omega)
                          subst hre
                          clear hrp
                          go_wp2
                          go_roundw
                          case rel => exact ⟨k + 1, m2, m3, X1, by omega, by omega, by go_num, Hm2.out, Hm3.out, hide (HT3.out.frame (Nat.le_of_eq hO.out.size.symm) ⟨hO.out.os.trans HT3.out.b.below.os, hO.out.tape.trans HT3.out.b.below.tape, hO.out.output.trans HT3.out.b.below.output, Nat.le_trans HT3.out.b.below.size (Nat.le_of_eq hO.out.size.symm), fun i hi => (hO.out.block i (fun e => by have := (HfrX.out i (.inr e)).1; have := Hwr.out; omega) (fun e => by have := (HfrX.out i (.inl e)).1; have := Hwr.out; omega)).trans (HT3.out.b.below.block i hi)⟩ (fun i hi => hO.out.block i (fun e => HnX.out i (.inr e) hi) (fun e => HnX.out i (.inl e) hi))), HgX⟩
                          case measure => simp [intOf]; omega
                  skip))
            · have hkn : k = n := by omega
              subst hkn
              clear hlt
              have hTw := HT.out.b.below
              obtain ⟨q0, q1, q2, q3, qf, ql⟩ := row4 ((hTw.block _ (block_lt HTz.out)).trans HTz.out)
              go_wp2_with fail
              refine wp_region_ext_tail 4 (by kernel_rfl) (by kernel_rfl) (fun _ _ d _ _ h => by cases d <;> exact h) ?_
              simp only [List.take_succ_cons, List.take_zero, List.drop_succ_cons, List.drop_zero]
              repeat (first
                | go_big_quiet_skip
                | (go_big_quiet_want
                   first
                     | (apply quiet_val
                        · intro wq hq
                          have hcq := hq.cells
                          have hzq := hq.lift
                          go_simp
                          try go_bits
                          first | done | with_reducible rfl
                        (try simp only [Act.put, List.setIfInBounds_toArray, List.set_cons_zero, List.set_cons_succ])
                        go_big_quiet_on)))
              refine wpQuiet_nil ?_
              intro wq hq2
              go_wp2_with fail
              refine (HPl.out _ (below2 Hb0z.out (below2 hTw hq2.below))).mono ?_
              rintro e w5 ⟨me, rfl, Pe, hfre⟩
              have HT5 := hide (HT.out.on (below2 hq2.below Pe.below))
              have HPe := hide Pe
              have HTz5 := hide ((HT5.out.b.below.block _ (block_lt HTz.out)).trans HTz.out)
              have Hw5 := hide (below2 Hb0z.out HT5.out.b.below)
              obtain ⟨⟨a1, a2, a3, a4, a5⟩, hsa⟩ : ∃ r, r = Sa.st := ⟨_, rfl⟩
              obtain ⟨⟨s1, s2, s3, s4, s5⟩, hs⟩ : ∃ r, r = S.st := ⟨_, rfl⟩
              have HSe := hide (fun x (hb : Below w5.heap.size w5 x) => state_any x (HPe.out.is.below hb))
              have HSt := hide (fun x (hb : Below w5.heap.size w5 x) => state_any x (HT5.out.t.is.below hb))
              have HSb := hide (fun x (hb : Below w5.heap.size w5 x) => state_any x (HT5.out.b.is.below hb))
              have HSd := hide (fun x (hb : Below w5.heap.size w5 x) => state_any x (HT5.out.d.is.below hb))
              rw [← hsa] at HSe HSt
              rw [← hs, hmb] at HSb
              rw [← hs, hmd] at HSd
              rw [← HE'.out] at HSt
              obtain ⟨M, hM⟩ : ∃ M, M = me.bb := ⟨_, rfl⟩
              rw [← hM] at HSe ⊢
              have HM := hide hM
              have Hmb := hide hmb
              have Hmd := hide hmd
              clear hM hsa hs hmb hmd Pe hfre hq2 hTw q0 q1 q2 q3 qf ql HPl HT
              go_wp2_with fail
              refine (HSe.out _ (Below.refl _ _)).mono ?_
              rintro e v1 ⟨rfl, hc1⟩
              go_wp2_with fail
              refine (HSt.out _ hc1).mono ?_
              rintro e v2 ⟨rfl, hc2⟩
              have hc12 := below2 hc1 hc2
              go_wp2_with fail
              refine (HSb.out _ hc12).mono ?_
              rintro e v3 ⟨rfl, hc3⟩
              have hc13 := below2 hc12 hc3
              go_wp2_with fail
              refine (HSd.out _ hc13).mono ?_
              rintro e v4 ⟨rfl, hc4⟩
              have hc14 := below2 hc13 hc4
              clear hc1 hc2 hc3 hc4 hc12 hc13 HSe HSt HSb HSd
              go_wp2_with fail
              go_loopw [16] (fun i wr => ∃ t : Nat, t ≤ tl ∧ i = .int .i64 t ∧ Below w5.heap.size w5 wr) (fun i _ => tl - (intOf i).toNat)
              case atStart => exact ⟨0, Nat.zero_le _, rfl, hc14⟩
              case round =>
                clear hc14
                obtain ⟨t, ht, rfl, hbr⟩ := hrel
                obtain ⟨q0, q1, q2, q3, qf, ql⟩ := row4 ((hbr.block _ (block_lt HTz5.out)).trans HTz5.out)
                by_cases htl : t < tl
                · have htS : t < S.gens.length := by rw [HgS.out]; exact htl
                  have htA : t < Sa.gens.length := by rw [Hglt.out]; exact htl
                  have hgS : S.genAt t = S.gen t := by
                    have : S.has t = true := by simp [Bd.has]; omega
                    simp [Bd.genAt, this]
                  have HGd := hide (fun x (hb : Below w5.heap.size w5 x) => gen_any t x (HT5.out.d.is.below hb))
                  have HGb := hide (fun x (hb : Below w5.heap.size w5 x) => gen_any t x (HT5.out.b.is.below hb))
                  have HGe := hide (fun x (hb : Below w5.heap.size w5 x) => gen_any t x (HPe.out.is.below hb))
                  have HGt := hide (fun x (hb : Below w5.heap.size w5 x) => gen_any t x (HT5.out.t.is.below hb))
                  have HRd := hide (fun x (hb : Below w5.heap.size w5 x) => record_any t x (HT5.out.d.is.below hb) htS)
                  have HRb := hide (fun x (hb : Below w5.heap.size w5 x) => record_any t x (HT5.out.b.is.below hb) htS)
                  rw [hgS, Hmd.out] at HGd
                  rw [hgS, Hmb.out] at HGb
                  rw [← HM.out] at HGe
                  rw [← HE'.out] at HGt
                  rw [Hmd.out] at HRd
                  rw [Hmb.out] at HRb
                  generalize S.gen t = G at *
                  generalize Sa.genAt t = H at *
                  generalize S.newest t = nw at *
                  have hti : (t : Int) < (tl : Int) := by omega
                  clear hgS htS htA
                  go_wp2_with fail
                  refine (HGd.out _ hbr).mono ?_
                  rintro e w' ⟨rfl, rfl⟩
                  go_wp2_with fail
                  refine (HRd.out _ hbr).mono ?_
                  rintro e x1 ⟨u1, rfl, hu1, hx1⟩
                  have hb1 := below2 hbr hx1
                  obtain ⟨A1, k1, rfl, -⟩ := hu1.shape
                  go_wp2_with fail
                  refine (HGb.out _ hb1).mono ?_
                  rintro e w' ⟨rfl, rfl⟩
                  go_wp2_with fail
                  refine (HRb.out _ hb1).mono ?_
                  rintro e x2 ⟨u2, rfl, hu2, hx2⟩
                  have hb2 := below2 hb1 hx2
                  obtain ⟨A2, k2, rfl, -⟩ := hu2.shape
                  go_wp2_with fail
                  refine (HGe.out _ hb2).mono ?_
                  rintro e w' ⟨rfl, rfl⟩
                  go_wp2_with fail
                  refine (HGt.out _ hb2).mono ?_
                  rintro e w' ⟨rfl, rfl⟩
                  go_wp2_with fail
                  refine (HGb.out _ hb2).mono ?_
                  rintro e w' ⟨rfl, rfl⟩
                  go_wp2_with fail
                  refine (HGd.out _ hb2).mono ?_
                  rintro e w' ⟨rfl, rfl⟩
                  have HWo := words_any (.slice A2 nw.length k2) (.slice A1 nw.length k1) nw nw _ hu2 (hu1.below hx2)
                  simp only [decide_true] at HWo
                  go_wp2_with fail
                  refine HWo.mono ?_
                  rintro e x3 ⟨rfl, hx3⟩
                  have hb3 := below2 hb2 hx3
                  go_wp2
                  go_roundw
                  case rel => exact ⟨t + 1, by omega, by go_num, hb3⟩
                  case measure => simp [intOf]; omega
                · have htt : t = tl := by omega
                  subst htt
                  clear htl
                  go_wp2_with fail
                  refine (record_none _).mono ?_
                  rintro e x1 ⟨rfl, hx1⟩
                  have hb1 := below2 hbr hx1
                  go_wp2_with fail
                  refine (do_none _).mono ?_
                  rintro e x2 ⟨rfl, hx2⟩
                  have hb2 := below2 hb1 hx2
                  have hR := heap_alloc_new x2 (.cells #[.int .i64 2, .int .i64 0, .int .u64 0, .int .i64 0, .int .u64 0, .int .i64 0, .int .i64 0, .bool false, .int .i64 0, .int .u64 0, .slice none 0 0, .slice none 0 0] 45)
                  have hbR := below2 hb2 (below_new x2 (.cells #[.int .i64 2, .int .i64 0, .int .u64 0, .int .i64 0, .int .u64 0, .int .i64 0, .int .i64 0, .bool false, .int .i64 0, .int .u64 0, .slice none 0 0, .slice none 0 0] 45))
                  obtain ⟨d0, d1, d2, d3, d4, d5, d6, d7, d8, d9, d10, d11, df, dl⟩ := row12 hR
                  go_wp2_with fail
                  refine (gen_none _).mono ?_
                  rintro e x4 ⟨rfl, hx4⟩
                  have hb4 := below2 hbR hx4
                  go_wp2_with fail
                  refine (state_none _).mono ?_
                  rintro e x5 ⟨rfl, hx5⟩
                  have hb5 := below2 hb4 hx5
                  go_wp2_with fail
                  refine (subs_none _).mono ?_
                  rintro e x6 ⟨rfl, hx6⟩
                  have hb6 := below2 hb5 hx6
                  go_wp2_with fail
                  refine (clone_none _).mono ?_
                  rintro e x7 ⟨rfl, hx7⟩
                  have hb7 := below2 hb6 hx7
                  have hbw := below2 Hw5.out hb7
                  go_wp2_with fail
                  refine (HAw.out _ hbw).mono ?_
                  rintro e w9 ⟨rfl, hb9⟩
                  go_wp2
                  go_ret
                  exact ⟨by simp, below2 hbw hb9⟩
    · obtain ⟨⟨F1, F2⟩, hFF⟩ : ∃ F, F = checkS a ts b c := ⟨_, rfl⟩
      rw [← hFF] at HC hck
      have hor : F1 ≠ 0 ∨ (F1 = 0 ∧ F2 ≠ 0) := by
        by_cases h1 : F1 = 0
        · right; exact ⟨h1, fun h2 => hck (by rw [h1, h2])⟩
        · exact .inl h1
      clear hfew hfw hts h150 h100 hck hFF hr hl hopen hn htl hF hW
      rcases hor with h1 | ⟨rfl, h1⟩
      · go_enter Tryd.func8, Tryd.ntmps8
        go_wp2_with fail
        refine (HFew.out _ hb0).mono ?_
        rintro e w1 ⟨rfl, hb1⟩
        have hb01 := below2 hb0 hb1
        have hT1 : w1.heap[w.heap.size]? = some (cfgO a (.slice A tl cc) b c) := (hb1.block _ (by simp)).trans (heap_alloc_new w _)
        obtain ⟨q0, q1, q2, q3, qf, ql⟩ := row4 hT1
        go_wp2_with fail
        refine (HC.out _ hb01).mono ?_
        rintro e w2 ⟨rfl, hb2⟩
        have hb02 := below2 hb01 hb2
        go_wp2_with fail
        refine (HAw.out _ hb02).mono ?_
        rintro e w9 ⟨rfl, hb9⟩
        go_wp2
        go_ret
        exact ⟨by simp, below2 hb02 hb9⟩
      · go_enter Tryd.func8, Tryd.ntmps8
        go_wp2_with fail
        refine (HFew.out _ hb0).mono ?_
        rintro e w1 ⟨rfl, hb1⟩
        have hb01 := below2 hb0 hb1
        have hT1 : w1.heap[w.heap.size]? = some (cfgO a (.slice A tl cc) b c) := (hb1.block _ (by simp)).trans (heap_alloc_new w _)
        obtain ⟨q0, q1, q2, q3, qf, ql⟩ := row4 hT1
        go_wp2_with fail
        refine (HC.out _ hb01).mono ?_
        rintro e w2 ⟨rfl, hb2⟩
        have hb02 := below2 hb01 hb2
        go_wp2_with fail
        refine (HAw.out _ hb02).mono ?_
        rintro e w9 ⟨rfl, hb9⟩
        go_wp2
        go_ret
        exact ⟨by simp, below2 hb02 hb9⟩
  · have hff : (fewS ts && fewA l) = false := by simpa using hfew
    rw [hff] at HFew
    clear hfew hff hr hl hopen hn htl hF hW
    go_enter Tryd.func8, Tryd.ntmps8
    go_wp2_with fail
    refine (HFew.out _ hb0).mono ?_
    rintro e w1 ⟨rfl, hb1⟩
    have hb01 := below2 hb0 hb1
    have hT1 : w1.heap[w.heap.size]? = some (cfgO a (.slice A tl cc) b c) := (hb1.block _ (by simp)).trans (heap_alloc_new w _)
    obtain ⟨q0, q1, q2, q3, qf, ql⟩ := row4 hT1
    go_wp2_with fail
    refine (HAw.out _ hb01).mono ?_
    rintro e w9 ⟨rfl, hb9⟩
    go_wp2
    go_ret
    exact ⟨by simp, below2 hb01 hb9⟩

end Go.Proofs.YtbbcajnbdebmfaaDoor
