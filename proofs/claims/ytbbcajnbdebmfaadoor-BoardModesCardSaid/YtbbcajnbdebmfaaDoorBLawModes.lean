/-
  The walk of the law BoardModes: it answers true. Conditions: a config and acts in memory; the calls' fields and the ways between modes, in memory.
-/
import Derived.Test.YtbbcajnbdebmfaaDoorBWake
import Derived.Test.YtbbcajnbdebmfaaDoorBFollows
import Derived.Deep.Cut
import Derived.Deep.RegionHeld3
namespace Go.Proofs.YtbbcajnbdebmfaaDoor
open Go.RowKit

abbrev actV (b o n c : Nat) : Value := .slice (some ⟨b, o, none⟩) n c

set_option maxRecDepth 1000000 in
set_option maxHeartbeats 3200000 in
theorem lawmodes_any (a b c : Int) (ts : List Tp) (u lv : Value) (l : List Ac) (w : World) (hr : Rd w u 3 ts.length (flatT ts)) (hl : ActsAt w lv l) (hF : FieldsAt w) (hW : WaysAt w) :
    Calls Tryd.prog 7 #[cfgV a u b c, lv] w fun e w' => e = .returned (.bool true) ∧ Below w.heap.size w w' := by
  obtain ⟨A, cc, rfl, -⟩ := id hr.shape
  have hl0 := hl
  obtain ⟨LA, lc, rfl, hl1, hl2, hopen⟩ := hl0
  obtain ⟨n, hn⟩ : ∃ n, n = l.length := ⟨_, rfl⟩
  obtain ⟨tl, htl⟩ : ∃ tl, tl = ts.length := ⟨_, rfl⟩
  have HFew := hide (fun w' (hb : Below w.heap.size w w') => few18_any a b c ts (.slice A ts.length cc) (.slice LA l.length lc) l w' (hr.below hb) (hl.below hb))
  have HAw := hide (fun w' (hb : Below w.heap.size w w') => awake_any w' (hF.below hb) (hW.below hb))
  rw [← hn] at HFew hopen hl1 ⊢
  rw [← htl] at HFew ⊢
  have hb0 := below_new w (cfgO a (.slice A tl cc) b c)
  have Hopen := hide hopen
  have Hn := hide hn
  have HF := hide hF
  have HW := hide hW
  by_cases hfew : (fewS ts && fewA l) = true
  · have hfw := hfew
    rw [Bool.and_eq_true] at hfw
    have hts := (few_true hfw.1).2
    obtain ⟨h150, h100⟩ := fewA_true hfw.2
    have HC := hide (fun w' (hb : Below w.heap.size w w') => check_any a b c ts (.slice A ts.length cc) w' (hr.below hb) (fun t ht => by have := hts t ht; omega))
    rw [← htl] at HC
    rw [hfew] at HFew
    by_cases hck : checkS a ts b c = (0, 0)
    · rw [hck] at HC
      have HNew := hide (fun w' (hb : Below w.heap.size w w') => new_any a b c ts (.slice A ts.length cc) w' (hr.below hb) (fun t ht => by have := hts t ht; omega) hck)
      rw [← htl] at HNew
      have H100 := hide h100
      have h150' : n ≤ 150 := by omega
      clear hfew hfw hts h150 h100 hck hr hl hopen hn htl hF hW
      go_enter Tryd.func7, Tryd.ntmps7
      go_wp2_with fail
      refine (HFew.out _ hb0).mono ?_
      rintro e w1 ⟨rfl, hb1⟩
      have hb01 := below2 hb0 hb1
      have hT1 : w1.heap[w.heap.size]? = some (cfgO a (.slice A tl cc) b c) := (hb1.block _ (by simp)).trans (heap_alloc_new w _)
      obtain ⟨q0, q1, q2, q3, qf, ql⟩ := row4 hT1
      go_wp2_with fail
      refine (HC.out _ hb01).mono ?_
      rintro e w2 ⟨rfl, hb2⟩
      have hb02 := below2 hb01 hb2
      have hT2 : w2.heap[w.heap.size]? = some (cfgO a (.slice A tl cc) b c) := (hb2.block _ (block_lt hT1)).trans hT1
      clear q0 q1 q2 q3 qf ql
      obtain ⟨q0, q1, q2, q3, qf, ql⟩ := row4 hT2
      go_wp2_with fail
      refine (HNew.out _ hb02).mono ?_
      rintro e w3 ⟨m0, rfl, hIs, hb3, hown⟩
      have P0 : Play w w3 0 m0 (newS a ts b c) := ⟨hIs, below2 hb02 hb3, fun i hi => Nat.le_trans hb02.size (hown i (.inl hi))⟩
      have hinv := hIs.inv
      have HSt := hide (show ∀ x, Below w3.heap.size w3 x → Calls Tryd.prog 18 #[.pointer (some ⟨m0.bb, 0, none⟩)] x fun e w' => e = .returned (rgV ⟨0, 0, false, 0, 0⟩) ∧ Below x.heap.size x w' from fun x hx => state_any x (hIs.below hx))
      obtain ⟨B, hB⟩ : ∃ B, B = m0.bb := ⟨_, rfl⟩
      rw [← hB] at HSt
      rw [← hB]
      have HB := hide hB
      have HP0 := hide P0
      clear hB P0 hIs hb3 hown q0 q1 q2 q3 qf ql hT1 hT2 hb01 hb02 hb0 hb1 hb2 HNew HC HFew hinv
      go_wp2_with fail
      refine (HSt.out _ (Below.refl _ _)).mono ?_
      rintro e w4 ⟨rfl, hb4⟩
      have hP4 : Play w w4 0 m0 (newS a ts b c) := HP0.out.on hb4
      have HP4 := hide hP4
      clear hP4 hb4 HSt HP0
      go_wp2_with fail
      go_loopw [7] (fun i wr => ∃ (k : Nat) (m : Mem) (S : Bd), k ≤ n ∧ i = .int .i64 k ∧ m.bb = B ∧ Play w wr k m S) (fun i _ => n - (intOf i).toNat)
      case atStart => exact ⟨0, m0, _, Nat.zero_le _, rfl, HB.out.symm, HP4.out⟩
      case round =>
        obtain ⟨k, m, S, hk, rfl, hmb, P⟩ := hrel
        by_cases hlt : k < n
        · obtain ⟨b1, o1, rfl, hblt, hat⟩ := Hopen.out (by omega)
          obtain ⟨⟨task, ⟨kd, tp, sb, cp, rk, so, md, fl, fr, set, ws⟩, sv, wv⟩, hx⟩ : ∃ x, l[k]? = some x := ⟨l[k]'(by have := Hn.out; omega), by simp⟩
          have hA := hat k _ hx
          obtain ⟨hs100, hw100⟩ := H100.out _ (List.mem_of_getElem? hx)
          have hfit := P.is.inv.fit P.is.kk
          have HFo := hide (fun t x (hb : Below w.heap.size w x) => follows_any S.st t hfit x (HW.out.below hb))
          have HSt := hide (fun x (hb : Below wr.heap.size wr x) => state_any x (P.is.below hb))
          have HD := hide (fun x (hb : Below wr.heap.size wr x) => (P.on hb).acts HF.out HW.out (by omega) hA hs100 hw100)
          have hturn := hide (modes_turn S task ⟨kd, tp, sb, cp, rk, so, md, fl, fr, set, ws⟩)
          have hstay := hide (modes_stay S task ⟨kd, tp, sb, cp, rk, so, md, fl, fr, set, ws⟩)
          obtain ⟨X, hX⟩ : ∃ X, X = doS S task ⟨kd, tp, sb, cp, rk, so, md, fl, fr, set, ws⟩ := ⟨_, rfl⟩
          simp only at HD
          rw [← hX, hmb] at HD
          rw [hmb] at HSt
          rw [← hX] at hturn hstay
          obtain ⟨⟨s1, s2, s3, s4, s5⟩, hst⟩ : ∃ r, r = S.st := ⟨_, rfl⟩
          rw [← hst] at HSt HFo hturn hstay
          have hs5 : s5 ≤ 1000000 := by have h1 := P.is.inv.reg.2.2.2.2; have h2 := P.is.kk; rw [← hst] at h1; simp only at h1; omega
          have hki : (k : Int) < (n : Int) := by omega
          have HK : ∀ x, Below w.heap.size w x → x.cell? ⟨b1, o1 + k * 12, none⟩ = some (.int .i64 task) ∧ x.cell? ⟨b1, o1 + k * 12 + 1, none⟩ = some (.int .i64 kd) ∧ x.cell? ⟨b1, o1 + k * 12 + 2, none⟩ = some (.int .i64 tp) ∧ x.cell? ⟨b1, o1 + k * 12 + 3, none⟩ = some (.int .i64 sb) ∧ x.cell? ⟨b1, o1 + k * 12 + 4, none⟩ = some (.int .i64 cp) ∧ x.cell? ⟨b1, o1 + k * 12 + 5, none⟩ = some (.int .i64 rk) ∧ x.cell? ⟨b1, o1 + k * 12 + 6, none⟩ = some (.int .i64 so) ∧ x.cell? ⟨b1, o1 + k * 12 + 7, none⟩ = some (.int .i64 md) ∧ x.cell? ⟨b1, o1 + k * 12 + 8, none⟩ = some (.int .i64 fl) ∧ x.cell? ⟨b1, o1 + k * 12 + 9, none⟩ = some (.bool fr) ∧ x.cell? ⟨b1, o1 + k * 12 + 10, none⟩ = some (sv) ∧ x.cell? ⟨b1, o1 + k * 12 + 11, none⟩ = some (wv) ∧ Below w.heap.size w x := fun x hb => by
            have h := hA.below hb
            exact ⟨h.c0, h.c1, h.c2, h.c3, h.c4, h.c5, h.c6, h.c7, h.c8, h.c9, h.c10, h.c11, hb⟩
          have hbl : ∀ x, Below w.heap.size w x → b1 < x.heap.size := fun x hb => Nat.lt_of_lt_of_le hblt hb.size
          have HP := hide P
          have Hmb := hide hmb
          have hkd := hA.c1
          simp only at hkd
          clear hX hst hfit hat hx hA hs100 hw100 P hmb
          go_wp2_with fail
          refine (HSt.out _ (Below.refl _ _)).mono ?_
          rintro e v1 ⟨rfl, hc1⟩
          have hbx1 := below2 hc1 (below_new v1 (rgO ⟨s1, s2, s3, s4, s5⟩))
          have hR8 := heap_alloc_new v1 (rgO ⟨s1, s2, s3, s4, s5⟩)
          have hg8w : wr.heap.size ≤ v1.heap.size := hc1.size
          go_upto_region 10 with fail
          generalize v1.alloc (rgO ⟨s1, s2, s3, s4, s5⟩) = x1 at *
          generalize v1.heap.size = g8 at *
          have hl8 := block_lt hR8
          have hn8 : ¬ m.own g8 := fun ho => by have := HP.out.is.lt _ (.inl ho); omega
          have hw1 : Below w.heap.size w x1 := below2 HP.out.below hbx1
          have HK1 := HK _ hw1.drew
          have hB0 : Below wr.heap.size wr x1.drew := hbx1.drew
          have hBa : Below wr.heap.size wr (x1.alloc anZ).drew := (below2 hbx1 (below_new x1 anZ)).drew
          have hwa : Below w.heap.size w (x1.alloc anZ).drew := (below2 hw1 (below_new x1 anZ)).drew
          have hb1 := hbl _ hw1
          have hwa0 : Below w.heap.size w (x1.alloc anZ) := below2 hw1 (below_new x1 anZ)
          have hg9 : w.heap.size ≤ x1.heap.size := hw1.size
          have hZa : ∀ x m2, Turns (x1.alloc anZ).drew x m m2 → x.heap[x1.heap.size]? = some anZ := fun x m2 hT => (hT.block x1.heap.size (by simp) (fun ho => by have := HP.out.is.lt _ (.inl ho); have := hbx1.size; omega)).trans (heap_alloc_new x1 anZ)
          go_region_held3 (fun x => x.cell? ⟨b1, o1 + k * 12, none⟩ = some (.int .i64 task) ∧ x.cell? ⟨b1, o1 + k * 12 + 1, none⟩ = some (.int .i64 kd) ∧ x.cell? ⟨b1, o1 + k * 12 + 2, none⟩ = some (.int .i64 tp) ∧ x.cell? ⟨b1, o1 + k * 12 + 3, none⟩ = some (.int .i64 sb) ∧ x.cell? ⟨b1, o1 + k * 12 + 4, none⟩ = some (.int .i64 cp) ∧ x.cell? ⟨b1, o1 + k * 12 + 5, none⟩ = some (.int .i64 rk) ∧ x.cell? ⟨b1, o1 + k * 12 + 6, none⟩ = some (.int .i64 so) ∧ x.cell? ⟨b1, o1 + k * 12 + 7, none⟩ = some (.int .i64 md) ∧ x.cell? ⟨b1, o1 + k * 12 + 8, none⟩ = some (.int .i64 fl) ∧ x.cell? ⟨b1, o1 + k * 12 + 9, none⟩ = some (.bool fr) ∧ x.cell? ⟨b1, o1 + k * 12 + 10, none⟩ = some (sv) ∧ x.cell? ⟨b1, o1 + k * 12 + 11, none⟩ = some (wv) ∧ Below w.heap.size w x)
            (first | with_reducible assumption | with_reducible exact HK1 | (refine HK _ ?_; (repeat refine Below.setCell ?_ hg9 _); first | with_reducible assumption | with_reducible exact hwa | with_reducible exact hwa0 | with_reducible exact below2 hwA (below_new _ _)))
            (first | (go_at_call 13; refine (HD.out _ (by first | with_reducible exact hB0 | with_reducible exact hBa)).mono ?_; rintro e v2 ⟨m2, gv, wv2, rfl, P2, hT2, hgv, hwv, -⟩; obtain ⟨Ag, kg, rfl, -⟩ := (Rd.of_own hgv).shape; obtain ⟨Aw, kw, rfl, -⟩ := (Rd.of_own hwv).shape; have hwA := P2.below; try (have hy : v2.heap[x1.heap.size]? = some anZ := (by with_reducible exact hZa _ _ hT2); obtain ⟨y0, y1, y2, y3, y4, y5, y6, y7, y8, y9, y10, y11, yf, yl⟩ := row12 hy)))
          all_goals first
            | (obtain ⟨y, hye⟩ : ∃ y, y = v2.alloc (anO X.2 (.slice Ag X.2.gens.length kg) (.slice Aw X.2.words.length kw)) := ⟨_, rfl⟩
               have hR9 : y.heap[v2.heap.size]? = some (anO X.2 (.slice Ag X.2.gens.length kg) (.slice Aw X.2.words.length kw)) := (by rw [hye]; exact heap_alloc_new v2 _)
               have hyB : Below v2.heap.size v2 y := (by rw [hye]; exact below_new v2 _)
               rw [← hye]
               have P3 : Play w y (k + 1) m2 X.1 := P2.on hyB
               have hV8 : v2.heap[g8]? = some (rgO ⟨s1, s2, s3, s4, s5⟩) := (hT2.block g8 hl8 hn8).trans hR8
               have hY8 := (hyB.block g8 (block_lt hV8)).trans hV8
               have hm2 : m2.bb = B := hT2.bb.trans Hmb.out
               clear hye hyB hV8
               generalize v2.heap.size = g9 at *)
            | (obtain ⟨y, hye⟩ : ∃ y, y = ((((((((((((v2.setCell ⟨x1.heap.size, 0, none⟩ (.int .i64 X.2.code)).setCell ⟨x1.heap.size, 1, none⟩ (.int .i64 X.2.sub)).setCell ⟨x1.heap.size, 2, none⟩ (.int .u64 X.2.gen)).setCell ⟨x1.heap.size, 3, none⟩ (.int .i64 X.2.count)).setCell ⟨x1.heap.size, 4, none⟩ (.int .u64 X.2.lost)).setCell ⟨x1.heap.size, 5, none⟩ (.int .i64 X.2.st.mode)).setCell ⟨x1.heap.size, 6, none⟩ (.int .i64 X.2.st.source)).setCell ⟨x1.heap.size, 7, none⟩ (.bool X.2.st.hold)).setCell ⟨x1.heap.size, 8, none⟩ (.int .i64 X.2.st.flags)).setCell ⟨x1.heap.size, 9, none⟩ (.int .u64 X.2.st.epoch)).setCell ⟨x1.heap.size, 10, none⟩ (.slice Ag X.2.gens.length kg)).setCell ⟨x1.heap.size, 11, none⟩ (.slice Aw X.2.words.length kw)) := ⟨_, rfl⟩
               have hR9 : y.heap[x1.heap.size]? = some (anO X.2 (.slice Ag X.2.gens.length kg) (.slice Aw X.2.words.length kw)) := (by rw [hye]; exact set12 hy (.int .i64 X.2.code) (.int .i64 X.2.sub) (.int .u64 X.2.gen) (.int .i64 X.2.count) (.int .u64 X.2.lost) (.int .i64 X.2.st.mode) (.int .i64 X.2.st.source) (.bool X.2.st.hold) (.int .i64 X.2.st.flags) (.int .u64 X.2.st.epoch) (.slice Ag X.2.gens.length kg) (.slice Aw X.2.words.length kw))
               have hyo : ∀ q, q ≠ x1.heap.size → y.heap[q]? = v2.heap[q]? := (fun q hq => by rw [hye]; exact set12_other hq (.int .i64 X.2.code) (.int .i64 X.2.sub) (.int .u64 X.2.gen) (.int .i64 X.2.count) (.int .u64 X.2.lost) (.int .i64 X.2.st.mode) (.int .i64 X.2.st.source) (.bool X.2.st.hold) (.int .i64 X.2.st.flags) (.int .u64 X.2.st.epoch) (.slice Ag X.2.gens.length kg) (.slice Aw X.2.words.length kw))
               have hyw : Below w.heap.size w y := (by rw [hye]; exact set12_below P2.below hg9 (.int .i64 X.2.code) (.int .i64 X.2.sub) (.int .u64 X.2.gen) (.int .i64 X.2.count) (.int .u64 X.2.lost) (.int .i64 X.2.st.mode) (.int .i64 X.2.st.source) (.bool X.2.st.hold) (.int .i64 X.2.st.flags) (.int .u64 X.2.st.epoch) (.slice Ag X.2.gens.length kg) (.slice Aw X.2.words.length kw))
               obtain ⟨z1, z2, z3, z4⟩ := set12_same v2 x1.heap.size (.int .i64 X.2.code) (.int .i64 X.2.sub) (.int .u64 X.2.gen) (.int .i64 X.2.count) (.int .u64 X.2.lost) (.int .i64 X.2.st.mode) (.int .i64 X.2.st.source) (.bool X.2.st.hold) (.int .i64 X.2.st.flags) (.int .u64 X.2.st.epoch) (.slice Ag X.2.gens.length kg) (.slice Aw X.2.words.length kw)
               have hys : y.heap.size = v2.heap.size := (by rw [hye]; exact z4)
               rw [← hye]
               have hwx := hbx1.size
               have P3 : Play w y (k + 1) m2 X.1 := ⟨P2.is.frame (by omega) (fun i hi => hyo i (fun hie => by
                 subst hie
                 rcases hi with hi | hi
                 · rcases hT2.own _ hi with h1 | h1
                   · have := HP.out.is.lt _ (.inl h1); omega
                   · simp at h1; omega
                 · rcases hT2.ro _ hi with h1 | h1
                   · have := HP.out.is.lt _ (.inr h1); omega
                   · simp at h1; omega)), hyw, P2.own⟩
               have hV8 : v2.heap[g8]? = some (rgO ⟨s1, s2, s3, s4, s5⟩) := (hT2.block g8 (by simp; omega) hn8).trans (alloc_was x1 anZ g8 _ hR8)
               have hY8 := (hyo g8 (by omega)).trans hV8
               have hm2 : m2.bb = B := hT2.bb.trans Hmb.out
               clear z1 z2 z3 z4 hye hyo hyw hys hwx hV8 hy y0 y1 y2 y3 y4 y5 y6 y7 y8 y9 y10 y11 yf yl
               generalize x1.heap.size = g9 at *)
          all_goals (
            have HP3 := hide P3
            have Hm2 := hide hm2
            have HSt2 := hide (fun x (hb : Below y.heap.size y x) => state_any x (P3.is.below hb))
            rw [hm2] at HSt2
            clear P3 hm2 P2 hT2 hgv hwv hwA hR8 hl8 hw1 HK HK1 hB0 hBa hwa hwa0 hZa HD hbx1 hbl
            obtain ⟨X1, ⟨cd, qs, qg, qc, ql, ⟨r1, r2, r3, r4, r5⟩, qgens, qwords⟩⟩ := X
            simp only at hR9 hturn hstay HSt2
            obtain ⟨⟨t1, t2, t3, t4, t5⟩, ht⟩ : ∃ r, r = X1.st := ⟨_, rfl⟩
            rw [← ht] at HSt2 hturn hstay
            clear ht
            have hKd : y.cell? ⟨b1, o1 + k * 12 + 1, none⟩ = some (.int .i64 kd) := (HP3.out.below.cell (p := ⟨b1, o1 + k * 12 + 1, none⟩) hblt).trans hkd
            have hb1y : b1 < y.heap.size := Nat.lt_of_lt_of_le hblt HP3.out.below.size
            go_wp2_with fail
            refine (HSt2.out _ (Below.refl _ _)).mono ?_
            rintro e v3 ⟨rfl, hc3⟩
            have hZ8 := alloc_was v3 (rgO ⟨t1, t2, t3, t4, t5⟩) _ _ ((hc3.block g8 (block_lt hY8)).trans hY8)
            have hZ9 := alloc_was v3 (rgO ⟨t1, t2, t3, t4, t5⟩) _ _ ((hc3.block g9 (block_lt hR9)).trans hR9)
            have hZ10 := heap_alloc_new v3 (rgO ⟨t1, t2, t3, t4, t5⟩)
            have hyz := below2 hc3 (below_new v3 (rgO ⟨t1, t2, t3, t4, t5⟩))
            go_upto_region 12 with fail
            generalize v3.alloc (rgO ⟨t1, t2, t3, t4, t5⟩) = z at *
            generalize v3.heap.size = g10 at *
            have zKd := (hyz.cell (p := ⟨b1, o1 + k * 12 + 1, none⟩) hb1y).trans hKd
            have hb1z : b1 < z.heap.size := Nat.lt_of_lt_of_le hb1y hyz.size
            obtain ⟨d0, d1, d2, d3, d4, df, dl⟩ := row5 hZ8
            obtain ⟨f0, f1, f2, f3, f4, f5, f6, f7, f8, f9, f10, f11, ff, fl'⟩ := row12 hZ9
            obtain ⟨i0, i1, i2, i3, i4, if', il⟩ := row5 hZ10
            have Hyz := hide hyz
            clear hc3 hY8 hR9 hyz hKd
            by_cases hcd : cd = 0
            · by_cases hk7 : kd = 7
              · subst hk7
                obtain ⟨hf1, hf2, hf3⟩ := hturn.out hcd (.inl rfl)
                subst hcd
                simp only [Rg.mk.injEq] at hf2
                obtain ⟨rfl, rfl, rfl, rfl, rfl⟩ := hf2
                have hw5 : IntKind.u64.wrap ((s5 : Int) + 1) = (r5 : Int) := by rw [IntKind.wrap_u64]; omega
                have HF1 := HFo.out ⟨r1, r2, r3, r4, r5⟩ z (below2 HP3.out.below Hyz.out)
                rw [hf1] at HF1
                have HF2 := hide HF1
                clear HF1 hf1 hf3 hstay hturn HFo
                go_wp2_with fail
                refine HF2.out.mono ?_
                rintro e v4 ⟨rfl, hc4⟩
                have hY8 := (hc4.block g8 dl).trans hZ8
                have hY9 := (hc4.block g9 fl').trans hZ9
                have hY10 := (hc4.block g10 il).trans hZ10
                have HPf := hide (HP3.out.on (below2 Hyz.out hc4))
                clear d0 d1 d2 d3 d4 df dl f0 f1 f2 f3 f4 f5 f6 f7 f8 f9 f10 f11 ff fl' i0 i1 i2 i3 i4 if' il hc4 hZ8 hZ9 hZ10 zKd hb1z
                obtain ⟨d0, d1, d2, d3, d4, df, dl⟩ := row5 hY8
                obtain ⟨f0, f1, f2, f3, f4, f5, f6, f7, f8, f9, f10, f11, ff, fl'⟩ := row12 hY9
                obtain ⟨i0, i1, i2, i3, i4, if', il⟩ := row5 hY10
                clear hY8 hY9 hY10
                go_wp2
                go_roundw
                case rel => exact ⟨k + 1, m2, X1, by omega, by go_num, Hm2.out, HPf.out⟩
                case measure => simp [intOf]; omega
              · by_cases hk8 : kd = 8
                · subst hk8
                  obtain ⟨hf1, hf2, hf3⟩ := hturn.out hcd (.inr rfl)
                  subst hcd
                  simp only [Rg.mk.injEq] at hf2
                  obtain ⟨rfl, rfl, rfl, rfl, rfl⟩ := hf2
                  have hw5 : IntKind.u64.wrap ((s5 : Int) + 1) = (r5 : Int) := by rw [IntKind.wrap_u64]; omega
                  have HF1 := HFo.out ⟨r1, r2, r3, r4, r5⟩ z (below2 HP3.out.below Hyz.out)
                  rw [hf1] at HF1
                  have HF2 := hide HF1
                  clear HF1 hf1 hf3 hstay hturn HFo
                  go_wp2_with fail
                  refine HF2.out.mono ?_
                  rintro e v4 ⟨rfl, hc4⟩
                  have hY8 := (hc4.block g8 dl).trans hZ8
                  have hY9 := (hc4.block g9 fl').trans hZ9
                  have hY10 := (hc4.block g10 il).trans hZ10
                  have HPf := hide (HP3.out.on (below2 Hyz.out hc4))
                  clear d0 d1 d2 d3 d4 df dl f0 f1 f2 f3 f4 f5 f6 f7 f8 f9 f10 f11 ff fl' i0 i1 i2 i3 i4 if' il hc4 hZ8 hZ9 hZ10 zKd hb1z
                  obtain ⟨d0, d1, d2, d3, d4, df, dl⟩ := row5 hY8
                  obtain ⟨f0, f1, f2, f3, f4, f5, f6, f7, f8, f9, f10, f11, ff, fl'⟩ := row12 hY9
                  obtain ⟨i0, i1, i2, i3, i4, if', il⟩ := row5 hY10
                  clear hY8 hY9 hY10
                  go_wp2
                  go_roundw
                  case rel => exact ⟨k + 1, m2, X1, by omega, by go_num, Hm2.out, HPf.out⟩
                  case measure => simp [intOf]; omega
                · obtain ⟨hq1, hq2⟩ := hstay.out (fun h => by omega)
                  simp only [Rg.mk.injEq] at hq1
                  obtain ⟨rfl, rfl, rfl, rfl, rfl⟩ := hq1
                  by_cases hk9 : kd = 9
                  · have hq3 := hq2 hcd hk9
                    subst hk9 hcd
                    simp only [Rg.mk.injEq] at hq3
                    obtain ⟨rfl, rfl, rfl, rfl, rfl⟩ := hq3
                    clear hq2 hstay hturn HFo
                    go_wp2
                    go_roundw
                    case rel => exact ⟨k + 1, m2, X1, by omega, by go_num, Hm2.out, HP3.out.on Hyz.out⟩
                    case measure => simp [intOf]; omega
                  · subst hcd
                    have hb7 : (kd == 7) = false := by simp [hk7]
                    have hb8 : (kd == 8) = false := by simp [hk8]
                    have hb9 : (kd == 9) = false := by simp [hk9]
                    clear hq2 hstay hturn HFo
                    go_wp2
                    go_roundw
                    case rel => exact ⟨k + 1, m2, X1, by omega, by go_num, Hm2.out, HP3.out.on Hyz.out⟩
                    case measure => simp [intOf]; omega
            · obtain ⟨hq1, hq2⟩ := hstay.out (fun h => hcd h.1)
              simp only [Rg.mk.injEq] at hq1
              obtain ⟨rfl, rfl, rfl, rfl, rfl⟩ := hq1
              clear hq2 hstay hturn HFo
              go_wp2
              go_roundw
              case rel => exact ⟨k + 1, m2, X1, by omega, by go_num, Hm2.out, HP3.out.on Hyz.out⟩
              case measure => simp [intOf]; omega
              skip)
        · have hkn : k = n := by omega
          subst hkn
          have hwr := P.below
          clear hlt P
          go_wp2_with fail
          refine (HAw.out _ hwr).mono ?_
          rintro e w9 ⟨rfl, hb9⟩
          go_wp2
          go_ret
          exact ⟨by simp, below2 hwr hb9⟩
    · obtain ⟨⟨F1, F2⟩, hFF⟩ : ∃ F, F = checkS a ts b c := ⟨_, rfl⟩
      rw [← hFF] at HC hck
      have hor : F1 ≠ 0 ∨ (F1 = 0 ∧ F2 ≠ 0) := by
        by_cases h1 : F1 = 0
        · right; exact ⟨h1, fun h2 => hck (by rw [h1, h2])⟩
        · exact .inl h1
      clear hfew hfw hts h150 h100 hck hFF hr hl hopen hn htl hF hW
      rcases hor with h1 | ⟨rfl, h1⟩
      · go_enter Tryd.func7, Tryd.ntmps7
        go_wp2_with fail
        refine (HFew.out _ hb0).mono ?_
        rintro e w1 ⟨rfl, hb1⟩
        have hb01 := below2 hb0 hb1
        have hT1 : w1.heap[w.heap.size]? = some (cfgO a (.slice A tl cc) b c) := (hb1.block _ (by simp)).trans (heap_alloc_new w _)
        obtain ⟨q0, q1, q2, q3, qf, ql⟩ := row4 hT1
        go_wp2_with fail
        refine (HC.out _ hb01).mono ?_
        rintro e w2 ⟨rfl, hb2⟩
        have hb02 := below2 hb01 hb2
        go_wp2_with fail
        refine (HAw.out _ hb02).mono ?_
        rintro e w9 ⟨rfl, hb9⟩
        go_wp2
        go_ret
        exact ⟨by simp, below2 hb02 hb9⟩
      · go_enter Tryd.func7, Tryd.ntmps7
        go_wp2_with fail
        refine (HFew.out _ hb0).mono ?_
        rintro e w1 ⟨rfl, hb1⟩
        have hb01 := below2 hb0 hb1
        have hT1 : w1.heap[w.heap.size]? = some (cfgO a (.slice A tl cc) b c) := (hb1.block _ (by simp)).trans (heap_alloc_new w _)
        obtain ⟨q0, q1, q2, q3, qf, ql⟩ := row4 hT1
        go_wp2_with fail
        refine (HC.out _ hb01).mono ?_
        rintro e w2 ⟨rfl, hb2⟩
        have hb02 := below2 hb01 hb2
        go_wp2_with fail
        refine (HAw.out _ hb02).mono ?_
        rintro e w9 ⟨rfl, hb9⟩
        go_wp2
        go_ret
        exact ⟨by simp, below2 hb02 hb9⟩
  · have hff : (fewS ts && fewA l) = false := by simpa using hfew
    rw [hff] at HFew
    clear hfew hff hr hl hopen hn htl hF hW
    go_enter Tryd.func7, Tryd.ntmps7
    go_wp2_with fail
    refine (HFew.out _ hb0).mono ?_
    rintro e w1 ⟨rfl, hb1⟩
    have hb01 := below2 hb0 hb1
    have hT1 : w1.heap[w.heap.size]? = some (cfgO a (.slice A tl cc) b c) := (hb1.block _ (by simp)).trans (heap_alloc_new w _)
    obtain ⟨q0, q1, q2, q3, qf, ql⟩ := row4 hT1
    go_wp2_with fail
    refine (HAw.out _ hb01).mono ?_
    rintro e w9 ⟨rfl, hb9⟩
    go_wp2
    go_ret
    exact ⟨by simp, below2 hb01 hb9⟩

end Go.Proofs.YtbbcajnbdebmfaaDoor
