/-
  The walk of New at a config that may be. Conditions: a config in memory, that passes the check.
-/
import Derived.Test.YtclgmikdjcjjdaaGreatDoorBNewA
import Derived.Deep.Cut
import Derived.Deep.CutRange
import Derived.Deep.DeepCutAuto
namespace Go.Proofs.YtclgmikdjcjjdaaGreatDoor
open Go.RowKit

theorem info_topic : (Tryz.prog.info? 63).map (fun i => (i.zero, i.size, i.bytes)) = some (some (.agg #[.string ⟨#[]⟩, .int .i64 0, .int .i64 0]), 3, 32) := by kernel_rfl
theorem info_topic_size (w : World) : (Go.sizeOf 63).run Tryz.prog w = .ok 3 w := by kernel_rfl
theorem info_row : (Tryz.prog.info? 55).map (fun i => (i.zero, i.size, i.bytes)) = some (some nilS, 1, 24) := by kernel_rfl
theorem und_rows : Tryz.prog.underlying 73 = some (.slice 55) := by kernel_rfl

theorem make_rows (n : Nat) (hn : n ≤ 100) (w : World) : (Instr.makeSlice 73 (.int .i64 (n : Int)) (.int .i64 (n : Int))).run Tryz.prog w = .ok (.slice (some ⟨w.heap.size, 0, none⟩) n n) (w.alloc (.cells (madeCells #[nilS] n) 55)) :=
  run_make_row' 73 55 nilS 24 und_rows info_row rfl .i64 .i64 n (by omega) (by omega) w

theorem one_flatT (ts : List Tp) : ∀ u ∈ flatT ts, u.oneCell' = true := by
  intro u hu
  unfold flatT at hu
  obtain ⟨p, -, hp⟩ := List.mem_flatMap.1 hu
  simp at hp
  rcases hp with rfl | rfl | rfl <;> rfl

/-- A clone of topics. -/
theorem clone_topics (v : Value) (ts : List Tp) (w : World) (h0 : 0 < ts.length) (h1 : ts.length ≤ 100) (hr : Rd w v 3 ts.length (flatT ts)) :
    Calls Tryz.prog 21 #[v] w fun e w' => ∃ v', e = .returned v' ∧ w'.ownsRow w.heap.size 63 3 v' ts.length (flatT ts) ∧ Below w.heap.size w w' := by
  obtain ⟨i0, hi, hz0, hz1, hz2⟩ := info_parts info_topic
  obtain ⟨b, o, c', rfl, h1', h2, hb, hc⟩ := hr.open_ h0
  refine (Tryz.slices_Clone28 i0 _ 3 32 hi hz0 hz1 hz2 rfl (by omega) info_topic_size b o ts.length c' (flatT ts) w (flatT_len ts) (by unfold maxLen; omega) (by omega) hc (one_flatT ts)).mono ?_
  rintro e w' ⟨v', rfl, hown, -, hbel⟩
  exact ⟨v', rfl, hown, hbel⟩

abbrev cfgO (a : Int) (v : Value) (b c : Int) : Obj := .cells #[.int .i64 a, v, .int .i64 b, .int .i64 c] 24

set_option maxRecDepth 100000 in
set_option maxHeartbeats 3200000 in
theorem new_any (a b c : Int) (ts : List Tp) (v : Value) (w : World) (hr : Rd w v 3 ts.length (flatT ts)) (hts : ∀ t ∈ ts, t.1.size ≤ 9223372036854775807) (hck : checkS a ts b c = (0, 0)) :
    Calls Tryz.prog 6 #[cfgV a v b c] w fun e w' => ∃ m : Mem, e = .returned (.tuple #[.pointer (some ⟨m.bb, 0, none⟩), .int .i64 0]) ∧ IsBd 0 w' m (newS a ts b c) ∧ Below w.heap.size w w' ∧ ∀ i, m.own i ∨ m.ro i → w.heap.size ≤ i := by
  obtain ⟨k1, k2, k3⟩ := check_ok hck
  obtain ⟨A0, cc, rfl, -⟩ := id hr.shape
  have HC := hide (fun (w' : World) (hb : Below w.heap.size w w') => check_any a b c ts (.slice A0 ts.length cc) w' (hr.below hb) hts)
  rw [hck] at HC
  have HCl := hide (fun (w' : World) (hb : Below w.heap.size w w') => clone_topics (.slice A0 ts.length cc) ts w' (by omega) (by omega) (hr.below hb))
  obtain ⟨tn, rfl⟩ : ∃ tn : Nat, a = tn := ⟨a.toNat, by omega⟩
  have htn : tn ≤ 100 := by omega
  obtain ⟨n, hn⟩ : ∃ n, n = ts.length := ⟨_, rfl⟩
  rw [← hn] at HC HCl
  rw [← hn]
  have hn100 : n ≤ 100 := by omega
  have hmkS := fun x => make_rows tn htn x
  have hmkG := fun x => make_u64 n hn100 x
  have hmm := @run_makeMap Tryz.prog
  have Hck := hide hck
  have Hn := hide hn
  have K1 := hide k1
  have K2 := hide k2
  have K3 := hide k3
  clear hr hts hck hn k1 k2 k3
  go_enter Tryz.func6, Tryz.ntmps6
  go_wp2_with fail
  have hb0 := below_new w (cfgO tn (.slice A0 n cc) b c)
  refine (HC.out _ hb0).mono ?_
  rintro e w1 ⟨rfl, hb1⟩
  have hb01 := below2 hb0 hb1
  have hT1 : w1.heap[w.heap.size]? = some (cfgO tn (.slice A0 n cc) b c) := (hb1.block _ (by simp)).trans (heap_alloc_new w _)
  have hl1 := block_lt hT1
  obtain ⟨p0, p1, p2, p3, pf, pl⟩ := row4 hT1
  clear hb1
  go_wp2_with fail
  have hb02 := below2 hb01 (below_new w1 (.cells #[.int .i64 0, .int .i64 0] 68))
  refine (HCl.out _ hb02).mono ?_
  rintro e w2 ⟨tv, rfl, hown, hb2⟩
  obtain ⟨At, ct, rfl, -⟩ := (Rd.of_own hown).shape
  have hT2 : w2.heap[w.heap.size]? = some (cfgO tn (.slice A0 n cc) b c) := (hb2.block _ (by simp; omega)).trans (alloc_was _ _ _ _ hT1)
  have hb03 := below2 hb02 hb2
  clear p0 p1 p2 p3 pf pl
  obtain ⟨p0, p1, p2, p3, pf, pl⟩ := row4 hT2
  go_upto_region 5 with fail
  obtain ⟨W, hW⟩ : ∃ W, W = w2.setCell ⟨w.heap.size, 1, none⟩ (.slice At n ct) := ⟨_, rfl⟩
  have hWT : W.heap[w.heap.size]? = some (cfgO tn (.slice At n ct) b c) := by rw [hW]; exact heap_setCell_same w2 w.heap.size 1 _ _ (.slice At n ct) hT2
  have hWo : ∀ q, q ≠ w.heap.size → W.heap[q]? = w2.heap[q]? := fun q hq => by rw [hW]; exact Below.heap_setCell w2 ⟨w.heap.size, 1, none⟩ _ _ hq
  have hWs : W.heap.size = w2.heap.size := by rw [hW]; simp
  have hWb : Below w.heap.size w W := by rw [hW]; exact hb03.setCell (Nat.le_refl _) _
  have hWown : W.ownsRow (w.heap.size + 1) 63 3 (.slice At n ct) n (flatT ts) := own_keepAt (own_base hown (by simp; omega)) (fun q hq => hWo q (by have := (hown.lt q hq).1; simp at this; omega))
  rw [← hW]
  have HWown := hide hWown
  have HWb := hide hWb
  clear hW hT2 hWo hWs hown hb2 hb03 hWown p0 p1 p2 p3 pf pl
  obtain ⟨p0, p1, p2, p3, pf, pl⟩ := row4 hWT
  have pl1 : w.heap.size < W.heap.size + 1 := by omega
  have pl2 : w.heap.size < W.heap.size + 1 + 1 := by omega
  have pl3 : w.heap.size < W.heap.size + 1 + 1 + 1 := by omega
  have pl4 : w.heap.size < W.heap.size + 1 + 1 + 1 + 1 := by omega
  have pn0 : ¬ w.heap.size = W.heap.size := by omega
  have pn1 : ¬ w.heap.size = W.heap.size + 1 := by omega
  have pn2 : ¬ w.heap.size = W.heap.size + 1 + 1 := by omega
  have pn3 : ¬ w.heap.size = W.heap.size + 1 + 1 + 1 := by omega
  go_cut [5] (fun s5 wx => ∃ rb gb ob sb bb, s5 = .pointer (some ⟨bb, 0, none⟩) ∧ NewAt W wx tn b c (.slice At n ct) n tn rb gb ob sb bb)
  case first =>
    go_region
    all_goals (
      go_wp2_with fail
      go_meet
      exact ⟨_, _, _, _, _, rfl, NewAt.drew (new_of W _ _ _ _ _ _ _ _ _ _ _ _ _ _ (by first | exact .inl ⟨by omega, rfl⟩ | exact .inr (.inl ⟨by omega, rfl⟩) | exact .inr (.inr (.inl ⟨by omega, rfl⟩)) | exact .inr (.inr (.inr ⟨by omega, rfl⟩))) (by first | exact .inl ⟨by omega, rfl⟩ | exact .inr (.inl ⟨by omega, rfl⟩) | exact .inr (.inr (.inl ⟨by omega, rfl⟩)) | exact .inr (.inr (.inr ⟨by omega, rfl⟩))) (by first | exact .inl ⟨by omega, rfl⟩ | exact .inr (.inl ⟨by omega, rfl⟩) | exact .inr (.inr (.inl ⟨by omega, rfl⟩)) | exact .inr (.inr (.inr ⟨by omega, rfl⟩))) (by first | exact .inl ⟨by omega, rfl⟩ | exact .inr (.inl ⟨by omega, rfl⟩) | exact .inr (.inr (.inl ⟨by omega, rfl⟩)) | exact .inr (.inr (.inr ⟨by omega, rfl⟩))) (by omega))⟩)
  case rest =>
    obtain ⟨rb, gb, ob, sb, bb, rfl, hN⟩ := hcut
    have hbw := hN.below
    have q1 := (hbw.cell (p := ⟨w.heap.size, 1, none⟩) pl).trans p1
    have c4 : wc.cell? ⟨bb, 4, none⟩ = some (.map (some rb)) := cell_of hN.hb 4
    have hbbl := block_lt hN.hb
    have hrbl := block_lt hN.hr
    have hnd := hN.nd
    have hge := hN.ge
    simp only [List.nodup_cons, List.mem_cons, List.not_mem_nil, or_false, not_or] at hnd
    have hbr : bb ≠ rb := hnd.1.1
    have hL0 := NewLoop.start wc rb ts hN.hr
    have pl' : w.heap.size < wc.heap.size := Nat.lt_of_lt_of_le pl hbw.size
    have HN := hide hN
    clear hN p0 p1 p2 p3 pf pl1 pl2 pl3 pl4 pn0 pn1 pn2 pn3 hnd hWT hmkS hmkG hb0 hb01 hb02 hl1 hT1
    go_wp2_with fail
    go_loopw [34] (fun i wr => ∃ (j : Nat) (rv : Nat → Nat → Option Value), j ≤ n ∧ i = .int .i64 j ∧ NewLoop wc rb ts j wr rv) (fun i _ => n - (intOf i).toNat)
    case atStart => exact ⟨0, _, Nat.zero_le _, rfl, hL0⟩
    case round =>
      obtain ⟨j, rv, hj, rfl, hL⟩ := hrel
      have hfr := hL.fr
      by_cases hlt : j < n
      · have hjl : j < ts.length := by have := Hn.out; omega
        have hRx : Rd wr (.slice At n ct) 3 n (flatT ts) := (Rd.of_own HWown.out).keepAt (Nat.le_trans hbw.size hfr.size) (fun q hq => by
          have hq2 := (HWown.out.lt q hq).2
          have hqr : q ≠ rb := by omega
          exact (hfr.block q (Nat.lt_of_lt_of_le hq2 hbw.size) hqr hqr).trans (hbw.block q hq2))
        obtain ⟨bt, ot, c', hv, -, -, hbt, hct⟩ := hRx.open_ (by omega)
        cases hv
        obtain ⟨f0, f1, f2⟩ := flatT_at ts j hjl
        obtain ⟨⟨nm, wd, dp⟩, hp⟩ : ∃ p, p = ts[j] := ⟨_, rfl⟩
        have hpj : ts[j]? = some (nm, wd, dp) := by rw [hp]; simp
        rw [← hp] at f0 f1 f2
        have hw64 := K3.out _ (List.mem_of_getElem? hpj)
        obtain ⟨wn, hwn⟩ : ∃ wn : Nat, wd = wn := ⟨wd.toNat, by simp only at hw64; omega⟩
        subst hwn
        have d0 := hct _ _ f0
        have d1 := hct _ _ f1
        have d2 := hct _ _ f2
        rw [← Nat.add_assoc] at d1 d2
        have hwn : wn ≤ 100 := by simp only at hw64; omega
        have hmkW := fun x => make_u64 wn hwn x
        have hji : (j : Int) < (n : Int) := by omega
        have x4 := (World.cell?_of_block (a := ⟨bb, 4, none⟩) (hfr.block bb hbbl hbr hbr)).trans c4
        have xbl : bb < wr.heap.size := Nat.lt_of_lt_of_le hbbl hfr.size
        have xrl : rb < wr.heap.size := Nat.lt_of_lt_of_le hrbl hfr.size
        have hxe : ∀ q, q < wr.heap.size → (((wr.alloc (.cells #[.string nm, .int .i64 wn, .int .i64 dp] 63)).alloc (.cells (madeCells #[.int .u64 0] wn) 36))).heap[q]? = wr.heap[q]? := fun q hq => (below_new2 wr _ _).block q hq
        have hM := hL.map.keep (hxe rb xrl)
        obtain ⟨z1, hz1, hM1, ht1⟩ := hM.store (T := 71) (by unfold maxLen; omega) und_recs (t := j) (g := 0) (by omega) (by omega) (.slice (some ⟨wr.heap.size + 1, 0, none⟩) wn wn)
        obtain ⟨z2, hz2, hM2, ht2⟩ := (hM.keep (w' := ((wr.alloc (.cells #[.string nm, .int .i64 wn, .int .i64 dp] 63)).alloc (.cells (madeCells #[.int .u64 0] wn) 36)).drew) rfl).store (T := 71) (by unfold maxLen; omega) und_recs (t := j) (g := 0) (by omega) (by omega) (.slice (some ⟨wr.heap.size + 1, 0, none⟩) wn wn)
        have hs1 : (Instr.mapUpdate 71 (.map (some rb)) (.agg #[.int .i64 j, .int .u64 0]) (.slice (some ⟨wr.heap.size + 1, 0, none⟩) wn wn)).run Tryz.prog ((wr.alloc (.cells #[.string nm, .int .i64 wn, .int .i64 dp] 63)).alloc (.cells (madeCells #[.int .u64 0] wn) 36)) = .ok () z1 := hz1
        have hs2 : (Instr.mapUpdate 71 (.map (some rb)) (.agg #[.int .i64 j, .int .u64 0]) (.slice (some ⟨wr.heap.size + 1, 0, none⟩) wn wn)).run Tryz.prog ((wr.alloc (.cells #[.string nm, .int .i64 wn, .int .i64 dp] 63)).alloc (.cells (madeCells #[.int .u64 0] wn) 36)).drew = .ok () z2 := hz2
        clear hz1 hz2
        have hRow : ((wr.alloc (.cells #[.string nm, .int .i64 wn, .int .i64 dp] 63)).alloc (.cells (madeCells #[.int .u64 0] wn) 36)).heap[wr.heap.size + 1]? = some (.cells (madeCells #[.int .u64 0] wn) 36) := (heap_two wr _ _).2
        have HRow := hide hRow
        have HL := hide hL
        have Hp := hide hpj
        have HM1 := hide hM1
        have HM2 := hide hM2
        have Ht1 := hide ht1
        have Ht2 := hide ht2
        clear hRx hct f0 f1 f2 hp hpj hxe hM hM1 hM2 ht1 ht2 hRow hL hw64
        go_wp2_with fail
        go_region
        go_wp2
        go_roundw
        case rel =>
          refine ⟨j + 1, laidIn rv j 0 (.slice (some ⟨wr.heap.size + 1, 0, none⟩) wn wn), by omega, by go_num, HL.out.step (below_new2 wr (.cells #[.string nm, .int .i64 wn, .int .i64 dp] 63) (.cells (madeCells #[.int .u64 0] wn) 36)).drew hrbl HM2.out Ht2.out Hp.out ?_ (fun q hq => by cases hq; exact ⟨Nat.le_succ _, by simp⟩)⟩
          refine Rd.of_own (base := 0) (e := 36) ⟨by simp, .inr ⟨wr.heap.size + 1, wn, _, rfl, Nat.zero_le _, HRow.out, Nat.le_refl _, by unfold maxLen; omega, by simp [size_madeCells], ?_⟩⟩
          rw [made_list]
          simp
        case measure => simp [intOf]; omega
      · have hjn : j = n := by omega
        subst hjn
        have HL := hide hL
        clear hL hlt
        go_wp2
        go_ret2
        have hL := HL.out
        have hN := HN.out
        have hsz := hWb.size
        have hnn := Hn.out
        subst hnn
        obtain ⟨m, hmb, hIs, hbase⟩ := NewAt.isBd (a := (tn : Int)) Hck.out hN hL HWown.out pl
        exact ⟨m, by rw [hmb]; simp, hIs, hWb.trans ⟨hL.fr.os.trans hbw.os, hL.fr.tape.trans hbw.tape, hL.fr.output.trans hbw.output, Nat.le_trans hbw.size hL.fr.size, fun q hq => (hL.fr.block q (by have := hbw.size; omega) (by omega) (by omega)).trans (hbw.block q (by omega))⟩, fun i hi => by have := hbase i hi; omega⟩

end Go.Proofs.YtclgmikdjcjjdaaGreatDoor
