/-
  The walk of the law BoardApart: it answers true. Conditions: a config and acts in memory; the calls' fields and the ways between modes, in memory.
-/
import Derived.Test.YtbbcajnbdebmfaaDoorBWake
import Derived.Test.YtbbcajnbdebmfaaDoorBTwo
import Derived.Test.YtbbcajnbdebmfaaDoorBFew
import Derived.Test.YtbbcajnbdebmfaaDoorBEqual
import Derived.Deep.Cut
import Derived.Deep.RegionHeld3
namespace Go.Proofs.YtbbcajnbdebmfaaDoor
open Go.RowKit

theorem Play.mono {w0 w : World} {k k' : Nat} {m : Mem} {S : Bd} (h : Play w0 w k m S) (hk : k ≤ k') (hk' : k' ≤ 1000000) : Play w0 w k' m S := ⟨h.is.mono hk hk', h.below, h.own⟩

set_option maxRecDepth 1000000 in
set_option maxHeartbeats 3200000 in
theorem lawapart_any (a b c : Int) (ts : List Tp) (u lv : Value) (l : List Ac) (tk : Int) (w : World) (hr : Rd w u 3 ts.length (flatT ts)) (hl : ActsAt w lv l) (hF : FieldsAt w) (hW : WaysAt w) :
    Calls Tryd.prog 5 #[cfgV a u b c, lv, .int .i64 tk] w fun e w' => e = .returned (.bool true) ∧ Below w.heap.size w w' := by
  obtain ⟨A, cc, rfl, -⟩ := id hr.shape
  have hl0 := hl
  obtain ⟨LA, lc, rfl, hl1, hl2, hopen⟩ := hl0
  obtain ⟨n, hn⟩ : ∃ n, n = l.length := ⟨_, rfl⟩
  obtain ⟨tl, htl⟩ : ∃ tl, tl = ts.length := ⟨_, rfl⟩
  have HFew := hide (fun w' (hb : Below w.heap.size w w') => few18_any a b c ts (.slice A ts.length cc) (.slice LA l.length lc) l w' (hr.below hb) (hl.below hb))
  have HAw := hide (fun w' (hb : Below w.heap.size w w') => awake_any w' (hF.below hb) (hW.below hb))
  rw [← hn] at HFew hopen hl1 ⊢
  rw [← htl] at HFew ⊢
  have hb0 := below_new w (cfgO a (.slice A tl cc) b c)
  have Hopen := hide hopen
  have Hn := hide hn
  have HF := hide hF
  have HW := hide hW
  by_cases hfew : (fewS ts && fewA l) = true
  · have hfw := hfew
    rw [Bool.and_eq_true] at hfw
    have hts := (few_true hfw.1).2
    obtain ⟨h150, h100⟩ := fewA_true hfw.2
    have HC := hide (fun w' (hb : Below w.heap.size w w') => check_any a b c ts (.slice A ts.length cc) w' (hr.below hb) (fun t ht => by have := hts t ht; omega))
    rw [← htl] at HC
    rw [hfew] at HFew
    by_cases hck : checkS a ts b c = (0, 0)
    · rw [hck] at HC
      have HNew := hide (fun w' (hb : Below w.heap.size w w') => new_any a b c ts (.slice A ts.length cc) w' (hr.below hb) (fun t ht => by have := hts t ht; omega) hck)
      rw [← htl] at HNew
      have H100 := hide h100
      have h150' : n ≤ 150 := by omega
      clear hfew hfw hts h150 h100 hck hr hl hopen hn htl hF hW
      go_enter Tryd.func5, Tryd.ntmps5
      go_wp2_with fail
      refine (HFew.out _ hb0).mono ?_
      rintro e w1 ⟨rfl, hb1⟩
      have hb01 := below2 hb0 hb1
      have hT1 : w1.heap[w.heap.size]? = some (cfgO a (.slice A tl cc) b c) := (hb1.block _ (by simp)).trans (heap_alloc_new w _)
      obtain ⟨q0, q1, q2, q3, qf, ql⟩ := row4 hT1
      go_wp2_with fail
      refine (HC.out _ hb01).mono ?_
      rintro e w2 ⟨rfl, hb2⟩
      have hb02 := below2 hb01 hb2
      have hT2 : w2.heap[w.heap.size]? = some (cfgO a (.slice A tl cc) b c) := (hb2.block _ (block_lt hT1)).trans hT1
      clear q0 q1 q2 q3 qf ql
      obtain ⟨q0, q1, q2, q3, qf, ql⟩ := row4 hT2
      go_wp2_with fail
      refine (HNew.out _ hb02).mono ?_
      rintro e w3 ⟨m0, rfl, hIs, hb3, hown⟩
      have hb03 := below2 hb02 hb3
      have hT3 : w3.heap[w.heap.size]? = some (cfgO a (.slice A tl cc) b c) := (hb3.block _ (block_lt hT2)).trans hT2
      have P0 : Play w w3 0 m0 (newS a ts b c) := ⟨hIs, hb03, fun i hi => Nat.le_trans hb02.size (hown i (.inl hi))⟩
      have HP0 := hide P0
      clear q0 q1 q2 q3 qf ql P0 hIs hown
      obtain ⟨q0, q1, q2, q3, qf, ql⟩ := row4 hT3
      go_wp2_with fail
      refine (HNew.out _ hb03).mono ?_
      rintro e w4 ⟨m1, rfl, hIs, hb4, hown⟩
      have HP1 := hide (show Play w w4 0 m1 (newS a ts b c) from ⟨hIs, below2 hb03 hb4, fun i hi => Nat.le_trans hb03.size (hown i (.inl hi))⟩)
      have HPa := hide (HP0.out.on hb4)
      have HDs := hide (show Dis m0 m1 from Dis.new (b := w3.heap.size) (fun i hi => HP0.out.is.lt i hi) hown)
      obtain ⟨B, hB⟩ : ∃ B, B = m0.bb := ⟨_, rfl⟩
      obtain ⟨C, hC⟩ : ∃ C, C = m1.bb := ⟨_, rfl⟩
      rw [← hB, ← hC]
      have HB := hide hB
      have HCb := hide hC
      clear hB hC hIs hb4 hown q0 q1 q2 q3 qf ql hT1 hT2 hT3 hb01 hb02 hb03 hb0 hb1 hb2 hb3 HNew HC HFew HP0
      go_wp2_with fail
      go_loopw [11] (fun i wr => ∃ (k : Nat) (m m' : Mem) (S T : Bd), k ≤ n ∧ i = .int .i64 k ∧ m.bb = B ∧ m'.bb = C ∧ Play w wr k m S ∧ Play w wr k m' T ∧ Hid (Dis m m' ∧ Ap tk S T)) (fun i _ => n - (intOf i).toNat)
      case atStart => exact ⟨0, m0, m1, _, _, Nat.zero_le _, rfl, HB.out.symm, HCb.out.symm, HPa.out, HP1.out, hide ⟨HDs.out, Ap.refl _ _⟩⟩
      case round =>
        obtain ⟨k, m, m', S, T, hk, rfl, hmb, hmc, P, Q, HDA⟩ := hrel
        by_cases hlt : k < n
        · obtain ⟨b1, o1, rfl, hblt, hat⟩ := Hopen.out (by omega)
          obtain ⟨⟨task, ⟨kd, tp, sb, cp, rk, so, md, fl, fr, set, ws⟩, sv, wv⟩, hx⟩ : ∃ x, l[k]? = some x := ⟨l[k]'(by have := Hn.out; omega), by simp⟩
          have hA := hat k _ hx
          obtain ⟨hs100, hw100⟩ := H100.out _ (List.mem_of_getElem? hx)
          have HD := hide (fun x (hb : Below wr.heap.size wr x) => (P.on hb).acts HF.out HW.out (by omega) hA hs100 hw100)
          have HE := hide (fun x (hQ : Play w x k m' T) => hQ.acts HF.out HW.out (by omega) hA hs100 hw100)
          have hslen : T.subs.length = S.subs.length := by rw [P.is.inv.slen, Q.is.inv.slen]; exact HDA.out.2.tasks
          have HApA := hide (show task = tk → kd ≠ 0 → kd ≠ 1 → kd ≠ 7 → kd ≠ 8 → Ap tk (doS S task ⟨kd, tp, sb, cp, rk, so, md, fl, fr, set, ws⟩).1 T from fun e h0 h1 h7 h8 => by rw [e]; exact ap_alone S T tk ⟨kd, tp, sb, cp, rk, so, md, fl, fr, set, ws⟩ HDA.out.2 h0 h1 h7 h8)
          have HApB := hide (show (task ≠ tk ∨ (kd = 0 ∨ kd = 1 ∨ kd = 7 ∨ kd = 8)) → (doS T task ⟨kd, tp, sb, cp, rk, so, md, fl, fr, set, ws⟩).2 = (doS S task ⟨kd, tp, sb, cp, rk, so, md, fl, fr, set, ws⟩).2 ∧ Ap tk (doS S task ⟨kd, tp, sb, cp, rk, so, md, fl, fr, set, ws⟩).1 (doS T task ⟨kd, tp, sb, cp, rk, so, md, fl, fr, set, ws⟩).1 from fun hi => by
            have h := ap_both S T tk task ⟨kd, tp, sb, cp, rk, so, md, fl, fr, set, ws⟩ HDA.out.2 hi hslen
            exact ⟨h.1, h.2.1⟩)
          obtain ⟨X, hX⟩ : ∃ X, X = doS S task ⟨kd, tp, sb, cp, rk, so, md, fl, fr, set, ws⟩ := ⟨_, rfl⟩
          obtain ⟨Y, hY⟩ : ∃ Y, Y = doS T task ⟨kd, tp, sb, cp, rk, so, md, fl, fr, set, ws⟩ := ⟨_, rfl⟩
          simp only at HD HE
          rw [← hX, hmb] at HD
          rw [← hY, hmc] at HE
          rw [← hX] at HApA HApB
          rw [← hY] at HApB
          have hki : (k : Int) < (n : Int) := by omega
          have HK : ∀ x, Below w.heap.size w x → x.cell? ⟨b1, o1 + k * 12, none⟩ = some (.int .i64 task) ∧ x.cell? ⟨b1, o1 + k * 12 + 1, none⟩ = some (.int .i64 kd) ∧ x.cell? ⟨b1, o1 + k * 12 + 2, none⟩ = some (.int .i64 tp) ∧ x.cell? ⟨b1, o1 + k * 12 + 3, none⟩ = some (.int .i64 sb) ∧ x.cell? ⟨b1, o1 + k * 12 + 4, none⟩ = some (.int .i64 cp) ∧ x.cell? ⟨b1, o1 + k * 12 + 5, none⟩ = some (.int .i64 rk) ∧ x.cell? ⟨b1, o1 + k * 12 + 6, none⟩ = some (.int .i64 so) ∧ x.cell? ⟨b1, o1 + k * 12 + 7, none⟩ = some (.int .i64 md) ∧ x.cell? ⟨b1, o1 + k * 12 + 8, none⟩ = some (.int .i64 fl) ∧ x.cell? ⟨b1, o1 + k * 12 + 9, none⟩ = some (.bool fr) ∧ x.cell? ⟨b1, o1 + k * 12 + 10, none⟩ = some (sv) ∧ x.cell? ⟨b1, o1 + k * 12 + 11, none⟩ = some (wv) ∧ Below w.heap.size w x := fun x hb => by
            have h := hA.below hb
            exact ⟨h.c0, h.c1, h.c2, h.c3, h.c4, h.c5, h.c6, h.c7, h.c8, h.c9, h.c10, h.c11, hb⟩
          have hbl : ∀ x, Below w.heap.size w x → b1 < x.heap.size := fun x hb => Nat.lt_of_lt_of_le hblt hb.size
          have HP := hide P
          have HQ := hide Q
          have Hmb := hide hmb
          have Hmc := hide hmc
          have HK0 := hide HK
          have hkd := (HK wr P.below).2.1
          have hb1 := hbl _ P.below
          clear hX hY hat hx hA hs100 hw100 P Q hmb hmc hslen
          go_upto_region 11 with fail
          have HK1 := HK _ HP.out.below.drew
          have hB0 : Below wr.heap.size wr wr.drew := (Below.refl _ _).drew
          have hBa : Below wr.heap.size wr (wr.alloc anZ).drew := (below_new wr anZ).drew
          have hwa : Below w.heap.size w (wr.alloc anZ).drew := (below2 HP.out.below (below_new wr anZ)).drew
          have hwa0 : Below w.heap.size w (wr.alloc anZ) := below2 HP.out.below (below_new wr anZ)
          have hg9 : w.heap.size ≤ wr.heap.size := HP.out.below.size
          have hZa : ∀ x m2, Turns (wr.alloc anZ).drew x m m2 → x.heap[wr.heap.size]? = some anZ := fun x m2 hT => (hT.block wr.heap.size (by simp) (fun ho => by have := HP.out.is.lt _ (.inl ho); omega)).trans (heap_alloc_new wr anZ)
          go_region_held3 (fun x => x.cell? ⟨b1, o1 + k * 12, none⟩ = some (.int .i64 task) ∧ x.cell? ⟨b1, o1 + k * 12 + 1, none⟩ = some (.int .i64 kd) ∧ x.cell? ⟨b1, o1 + k * 12 + 2, none⟩ = some (.int .i64 tp) ∧ x.cell? ⟨b1, o1 + k * 12 + 3, none⟩ = some (.int .i64 sb) ∧ x.cell? ⟨b1, o1 + k * 12 + 4, none⟩ = some (.int .i64 cp) ∧ x.cell? ⟨b1, o1 + k * 12 + 5, none⟩ = some (.int .i64 rk) ∧ x.cell? ⟨b1, o1 + k * 12 + 6, none⟩ = some (.int .i64 so) ∧ x.cell? ⟨b1, o1 + k * 12 + 7, none⟩ = some (.int .i64 md) ∧ x.cell? ⟨b1, o1 + k * 12 + 8, none⟩ = some (.int .i64 fl) ∧ x.cell? ⟨b1, o1 + k * 12 + 9, none⟩ = some (.bool fr) ∧ x.cell? ⟨b1, o1 + k * 12 + 10, none⟩ = some (sv) ∧ x.cell? ⟨b1, o1 + k * 12 + 11, none⟩ = some (wv) ∧ Below w.heap.size w x)
            (first | with_reducible assumption | with_reducible exact HK1 | (refine HK _ ?_; (repeat refine Below.setCell ?_ hg9 _); first | with_reducible assumption | with_reducible exact hwa | with_reducible exact hwa0 | with_reducible exact below2 hwA (below_new _ _)))
            (first | (go_at_call 13; refine (HD.out _ (by first | with_reducible exact hB0 | with_reducible exact hBa)).mono ?_; rintro e v2 ⟨m2, gv, wv2, rfl, P2, hT2, hgv, hwv, -⟩; obtain ⟨Ag, kg, rfl, -⟩ := (Rd.of_own hgv).shape; obtain ⟨Aw, kw, rfl, -⟩ := (Rd.of_own hwv).shape; have hwA := P2.below; try (have hy : v2.heap[wr.heap.size]? = some anZ := (by with_reducible exact hZa _ _ hT2); obtain ⟨y0, y1, y2, y3, y4, y5, y6, y7, y8, y9, y10, y11, yf, yl⟩ := row12 hy)))
          all_goals first
            | (obtain ⟨y, hye⟩ : ∃ y, y = v2.alloc (anO X.2 (.slice Ag X.2.gens.length kg) (.slice Aw X.2.words.length kw)) := ⟨_, rfl⟩
               have hR9 : y.heap[v2.heap.size]? = some (anO X.2 (.slice Ag X.2.gens.length kg) (.slice Aw X.2.words.length kw)) := (by rw [hye]; exact heap_alloc_new v2 _)
               have hyB : Below v2.heap.size v2 y := (by rw [hye]; exact below_new v2 _)
               rw [← hye]
               have P3 : Play w y (k + 1) m2 X.1 := P2.on hyB
               have Q3 : Play w y k m' T := ((HQ.out.on hB0).other (HP.out.on hB0) hT2 HDA.out.1).on hyB
               have DY : Dis m2 m' := HDA.out.1.turns hT2 (fun i hi => (HQ.out.on hB0).is.lt i hi)
               have hm2 : m2.bb = B := hT2.bb.trans Hmb.out
               have RG := (Rd.of_own hgv).below hyB
               have RW := (Rd.of_own hwv).below hyB
               have hfr : ∀ q, (Value.slice Ag X.2.gens.length kg).ownBlock = some q ∨ (Value.slice Aw X.2.words.length kw).ownBlock = some q → wr.heap.size ≤ q ∧ q < y.heap.size := (fun q hq => hq.elim (fun h => ⟨Nat.le_trans hB0.size (hgv.lt q h).1, Nat.lt_of_lt_of_le (hgv.lt q h).2 hyB.size⟩) (fun h => ⟨Nat.le_trans hB0.size (hwv.lt q h).1, Nat.lt_of_lt_of_le (hwv.lt q h).2 hyB.size⟩))
               have hg9' : wr.heap.size ≤ v2.heap.size := Nat.le_trans hB0.size hT2.size
               clear hye hyB
               generalize v2.heap.size = g9 at *)
            | (obtain ⟨y, hye⟩ : ∃ y, y = (((((((((((v2.setCell ⟨wr.heap.size, 0, none⟩ (.int .i64 X.2.code)).setCell ⟨wr.heap.size, 1, none⟩ (.int .i64 X.2.sub)).setCell ⟨wr.heap.size, 2, none⟩ (.int .u64 X.2.gen)).setCell ⟨wr.heap.size, 3, none⟩ (.int .i64 X.2.count)).setCell ⟨wr.heap.size, 4, none⟩ (.int .u64 X.2.lost)).setCell ⟨wr.heap.size, 5, none⟩ (.int .i64 X.2.st.mode)).setCell ⟨wr.heap.size, 6, none⟩ (.int .i64 X.2.st.source)).setCell ⟨wr.heap.size, 7, none⟩ (.bool X.2.st.hold)).setCell ⟨wr.heap.size, 8, none⟩ (.int .i64 X.2.st.flags)).setCell ⟨wr.heap.size, 9, none⟩ (.int .u64 X.2.st.epoch)).setCell ⟨wr.heap.size, 10, none⟩ (.slice Ag X.2.gens.length kg)).setCell ⟨wr.heap.size, 11, none⟩ (.slice Aw X.2.words.length kw) := ⟨_, rfl⟩
               have hR9 : y.heap[wr.heap.size]? = some (anO X.2 (.slice Ag X.2.gens.length kg) (.slice Aw X.2.words.length kw)) := (by rw [hye]; exact set12 hy (.int .i64 X.2.code) (.int .i64 X.2.sub) (.int .u64 X.2.gen) (.int .i64 X.2.count) (.int .u64 X.2.lost) (.int .i64 X.2.st.mode) (.int .i64 X.2.st.source) (.bool X.2.st.hold) (.int .i64 X.2.st.flags) (.int .u64 X.2.st.epoch) (.slice Ag X.2.gens.length kg) (.slice Aw X.2.words.length kw))
               have hyo : ∀ q, q ≠ wr.heap.size → y.heap[q]? = v2.heap[q]? := (fun q hq => by rw [hye]; exact set12_other hq (.int .i64 X.2.code) (.int .i64 X.2.sub) (.int .u64 X.2.gen) (.int .i64 X.2.count) (.int .u64 X.2.lost) (.int .i64 X.2.st.mode) (.int .i64 X.2.st.source) (.bool X.2.st.hold) (.int .i64 X.2.st.flags) (.int .u64 X.2.st.epoch) (.slice Ag X.2.gens.length kg) (.slice Aw X.2.words.length kw))
               have hyw : Below w.heap.size w y := (by rw [hye]; exact set12_below P2.below hg9 (.int .i64 X.2.code) (.int .i64 X.2.sub) (.int .u64 X.2.gen) (.int .i64 X.2.count) (.int .u64 X.2.lost) (.int .i64 X.2.st.mode) (.int .i64 X.2.st.source) (.bool X.2.st.hold) (.int .i64 X.2.st.flags) (.int .u64 X.2.st.epoch) (.slice Ag X.2.gens.length kg) (.slice Aw X.2.words.length kw))
               obtain ⟨z1, z2, z3, z4⟩ := set12_same v2 wr.heap.size (.int .i64 X.2.code) (.int .i64 X.2.sub) (.int .u64 X.2.gen) (.int .i64 X.2.count) (.int .u64 X.2.lost) (.int .i64 X.2.st.mode) (.int .i64 X.2.st.source) (.bool X.2.st.hold) (.int .i64 X.2.st.flags) (.int .u64 X.2.st.epoch) (.slice Ag X.2.gens.length kg) (.slice Aw X.2.words.length kw)
               have hys : y.heap.size = v2.heap.size := (by rw [hye]; exact z4)
               rw [← hye]
               have hba : (wr.alloc anZ).drew.heap.size = wr.heap.size + 1 := (by simp)
               have hgl : ∀ q, (Value.slice Ag X.2.gens.length kg).ownBlock = some q → wr.heap.size + 1 ≤ q ∧ q < v2.heap.size := (fun q hq => by have h := hgv.lt q hq; exact ⟨by rw [← hba]; exact h.1, h.2⟩)
               have hwl : ∀ q, (Value.slice Aw X.2.words.length kw).ownBlock = some q → wr.heap.size + 1 ≤ q ∧ q < v2.heap.size := (fun q hq => by have h := hwv.lt q hq; exact ⟨by rw [← hba]; exact h.1, h.2⟩)
               have P3 : Play w y (k + 1) m2 X.1 := ⟨P2.is.frame (by omega) (fun i hi => hyo i (fun hie => by
                 subst hie
                 rcases hi with hi | hi
                 · rcases hT2.own _ hi with h1 | h1
                   · have := HP.out.is.lt _ (.inl h1); omega
                   · simp at h1; omega
                 · rcases hT2.ro _ hi with h1 | h1
                   · have := HP.out.is.lt _ (.inr h1); omega
                   · simp at h1; omega)), hyw, P2.own⟩
               have Qv := (HQ.out.on hBa).other (HP.out.on hBa) hT2 HDA.out.1
               have Q3 : Play w y k m' T := ⟨Qv.is.frame (by omega) (fun i hi => hyo i (fun hie => by
                 subst hie
                 have := HQ.out.is.lt _ hi
                 omega)), hyw, HQ.out.own⟩
               have DY : Dis m2 m' := HDA.out.1.turns hT2 (fun i hi => (HQ.out.on hBa).is.lt i hi)
               have hm2 : m2.bb = B := hT2.bb.trans Hmb.out
               have RG := Rd.of_own (own_keepAt hgv (w' := y) (fun q hq => hyo q (by have := (hgl q hq).1; omega)))
               have RW := Rd.of_own (own_keepAt hwv (w' := y) (fun q hq => hyo q (by have := (hwl q hq).1; omega)))
               have hfr : ∀ q, (Value.slice Ag X.2.gens.length kg).ownBlock = some q ∨ (Value.slice Aw X.2.words.length kw).ownBlock = some q → wr.heap.size ≤ q ∧ q < y.heap.size := (fun q hq => hq.elim (fun h => by have := hgl q h; omega) (fun h => by have := hwl q h; omega))
               have hg9' : wr.heap.size ≤ wr.heap.size := Nat.le_refl _
               clear z1 z2 z3 z4 hye hyo hyw hys hba Qv hgl hwl hy y0 y1 y2 y3 y4 y5 y6 y7 y8 y9 y10 y11 yf yl
               generalize hgg : wr.heap.size = g9 at hR9 hg9' ⊢
               rw [← hgg] at hg9')
          all_goals (
            have HP3 := hide P3
            have HQ3 := hide Q3
            have HDY := hide DY
            have Hm2 := hide hm2
            have hmq : ∀ i, m'.own i → i < wr.heap.size := (fun i hi => HQ.out.is.lt i (.inl hi))
            have Hmq := hide hmq
            have Hfr := hide hfr
            have HRG := hide RG
            have HRW := hide RW
            clear P3 Q3 DY hm2 P2 hT2 hgv hwv hwA HK1 hB0 hBa hwa hwa0 hZa HD hbl hmq hfr RG RW
            obtain ⟨X1, ⟨cd, qs, qg, qc, ql, ⟨r1, r2, r3, r4, r5⟩, gens, words⟩⟩ := X
            obtain ⟨Y1, Y2⟩ := Y
            simp only at hR9 HApA HApB HRG HRW Hfr HE
            have hkdy : y.cell? ⟨b1, o1 + k * 12, none⟩ = some (.int .i64 task) := (HK0.out y HP3.out.below).1
            have hb1y : b1 < y.heap.size := Nat.lt_of_lt_of_le hblt HP3.out.below.size
            by_cases htk : task = tk
            · by_cases hkk : kd = 0 ∨ kd = 1 ∨ kd = 7 ∨ kd = 8
              · obtain ⟨hYX, hAp⟩ := HApB.out (.inr hkk)
                subst htk
                subst hYX
                have HAp := hide hAp
                clear HApA HApB hAp
                rcases hkk with hk' | hk' | hk' | hk'
                · have hb0' : (kd != 0) = false := (by simp [hk'])
                  clear hk'
                  go_upto_region 13 with fail
                  have HK2 : ∀ x, Below w.heap.size w x → x.heap[g9]? = some (anO ⟨cd, qs, qg, qc, ql, ⟨r1, r2, r3, r4, r5⟩, gens, words⟩ (.slice Ag gens.length kg) (.slice Aw words.length kw)) → x.cell? ⟨b1, o1 + k * 12, none⟩ = some (.int .i64 task) ∧ x.cell? ⟨b1, o1 + k * 12 + 1, none⟩ = some (.int .i64 kd) ∧ x.cell? ⟨b1, o1 + k * 12 + 2, none⟩ = some (.int .i64 tp) ∧ x.cell? ⟨b1, o1 + k * 12 + 3, none⟩ = some (.int .i64 sb) ∧ x.cell? ⟨b1, o1 + k * 12 + 4, none⟩ = some (.int .i64 cp) ∧ x.cell? ⟨b1, o1 + k * 12 + 5, none⟩ = some (.int .i64 rk) ∧ x.cell? ⟨b1, o1 + k * 12 + 6, none⟩ = some (.int .i64 so) ∧ x.cell? ⟨b1, o1 + k * 12 + 7, none⟩ = some (.int .i64 md) ∧ x.cell? ⟨b1, o1 + k * 12 + 8, none⟩ = some (.int .i64 fl) ∧ x.cell? ⟨b1, o1 + k * 12 + 9, none⟩ = some (.bool fr) ∧ x.cell? ⟨b1, o1 + k * 12 + 10, none⟩ = some (sv) ∧ x.cell? ⟨b1, o1 + k * 12 + 11, none⟩ = some (wv) ∧ Below w.heap.size w x ∧ x.cell? ⟨g9, 0, none⟩ = some (.int .i64 cd) ∧ x.cell? ⟨g9, 1, none⟩ = some (.int .i64 (qs : Nat)) ∧ x.cell? ⟨g9, 2, none⟩ = some (.int .u64 (qg : Nat)) ∧ x.cell? ⟨g9, 3, none⟩ = some (.int .i64 (qc : Nat)) ∧ x.cell? ⟨g9, 4, none⟩ = some (.int .u64 (ql : Nat)) ∧ x.cell? ⟨g9, 5, none⟩ = some (.int .i64 r1) ∧ x.cell? ⟨g9, 6, none⟩ = some (.int .i64 r2) ∧ x.cell? ⟨g9, 7, none⟩ = some (.bool r3) ∧ x.cell? ⟨g9, 8, none⟩ = some (.int .i64 r4) ∧ x.cell? ⟨g9, 9, none⟩ = some (.int .u64 (r5 : Nat)) ∧ x.cell? ⟨g9, 10, none⟩ = some (.slice Ag gens.length kg) ∧ x.cell? ⟨g9, 11, none⟩ = some (.slice Aw words.length kw) := fun x hb hx => by
                    have h := HK0.out x hb
                    have h2 := row12 hx
                    exact ⟨h.1, h.2.1, h.2.2.1, h.2.2.2.1, h.2.2.2.2.1, h.2.2.2.2.2.1, h.2.2.2.2.2.2.1, h.2.2.2.2.2.2.2.1, h.2.2.2.2.2.2.2.2.1, h.2.2.2.2.2.2.2.2.2.1, h.2.2.2.2.2.2.2.2.2.2.1, h.2.2.2.2.2.2.2.2.2.2.2.1, hb, h2.1, h2.2.1, h2.2.2.1, h2.2.2.2.1, h2.2.2.2.2.1, h2.2.2.2.2.2.1, h2.2.2.2.2.2.2.1, h2.2.2.2.2.2.2.2.1, h2.2.2.2.2.2.2.2.2.1, h2.2.2.2.2.2.2.2.2.2.1, h2.2.2.2.2.2.2.2.2.2.2.1, h2.2.2.2.2.2.2.2.2.2.2.2.1⟩
                  have HK3 := HK2 y.drew HP3.out.below.drew hR9
                  have hyd : Below y.heap.size y y.drew := (Below.refl _ _).drew
                  have HQd : Play w y.drew k m' T := HQ3.out.on hyd
                  have HEq := hide (fun x gv' wv' h1 h2 h3 h4 => equal_any ⟨cd, qs, qg, qc, ql, ⟨r1, r2, r3, r4, r5⟩, gens, words⟩ (.slice Ag gens.length kg) (.slice Aw words.length kw) gv' wv' x h1 h2 h3 h4)
                  simp only at HEq HE
                  go_region_held3 (fun x => x.cell? ⟨b1, o1 + k * 12, none⟩ = some (.int .i64 task) ∧ x.cell? ⟨b1, o1 + k * 12 + 1, none⟩ = some (.int .i64 kd) ∧ x.cell? ⟨b1, o1 + k * 12 + 2, none⟩ = some (.int .i64 tp) ∧ x.cell? ⟨b1, o1 + k * 12 + 3, none⟩ = some (.int .i64 sb) ∧ x.cell? ⟨b1, o1 + k * 12 + 4, none⟩ = some (.int .i64 cp) ∧ x.cell? ⟨b1, o1 + k * 12 + 5, none⟩ = some (.int .i64 rk) ∧ x.cell? ⟨b1, o1 + k * 12 + 6, none⟩ = some (.int .i64 so) ∧ x.cell? ⟨b1, o1 + k * 12 + 7, none⟩ = some (.int .i64 md) ∧ x.cell? ⟨b1, o1 + k * 12 + 8, none⟩ = some (.int .i64 fl) ∧ x.cell? ⟨b1, o1 + k * 12 + 9, none⟩ = some (.bool fr) ∧ x.cell? ⟨b1, o1 + k * 12 + 10, none⟩ = some (sv) ∧ x.cell? ⟨b1, o1 + k * 12 + 11, none⟩ = some (wv) ∧ Below w.heap.size w x ∧ x.cell? ⟨g9, 0, none⟩ = some (.int .i64 cd) ∧ x.cell? ⟨g9, 1, none⟩ = some (.int .i64 (qs : Nat)) ∧ x.cell? ⟨g9, 2, none⟩ = some (.int .u64 (qg : Nat)) ∧ x.cell? ⟨g9, 3, none⟩ = some (.int .i64 (qc : Nat)) ∧ x.cell? ⟨g9, 4, none⟩ = some (.int .u64 (ql : Nat)) ∧ x.cell? ⟨g9, 5, none⟩ = some (.int .i64 r1) ∧ x.cell? ⟨g9, 6, none⟩ = some (.int .i64 r2) ∧ x.cell? ⟨g9, 7, none⟩ = some (.bool r3) ∧ x.cell? ⟨g9, 8, none⟩ = some (.int .i64 r4) ∧ x.cell? ⟨g9, 9, none⟩ = some (.int .u64 (r5 : Nat)) ∧ x.cell? ⟨g9, 10, none⟩ = some (.slice Ag gens.length kg) ∧ x.cell? ⟨g9, 11, none⟩ = some (.slice Aw words.length kw))
                    (first | with_reducible assumption | with_reducible exact HK3 | (refine HK2 _ ?_ ?_ <;> with_reducible assumption))
                    (first
                      | (go_at_call 13; refine (HE.out _ (by with_reducible exact HQd)).mono ?_; rintro e v3 ⟨m3, gv3, wv3, rfl, Q4, hT3, hgv3, hwv3, -⟩; have hwE := Q4.below; have hRE : v3.heap[g9]? = some (anO ⟨cd, qs, qg, qc, ql, ⟨r1, r2, r3, r4, r5⟩, gens, words⟩ (.slice Ag gens.length kg) (.slice Aw words.length kw)) := ((hT3.block g9 (block_lt hR9) (fun ho => by have := Hmq.out _ ho; omega)).trans hR9); obtain ⟨Bg, jg, rfl, -⟩ := (Rd.of_own hgv3).shape; obtain ⟨Bw, jw, rfl, -⟩ := (Rd.of_own hwv3).shape; have hG1 := HRG.out.keepAt (w' := v3) hT3.size (fun q hq => hT3.block q (Hfr.out q (.inl hq)).2 (fun ho => by have := Hmq.out _ ho; have := (Hfr.out q (.inl hq)).1; omega)); have hW1 := HRW.out.keepAt (w' := v3) hT3.size (fun q hq => hT3.block q (Hfr.out q (.inr hq)).2 (fun ho => by have := Hmq.out _ ho; have := (Hfr.out q (.inr hq)).1; omega)))
                      | (go_at_call 17; refine (HEq.out v3 _ _ hG1 hW1 (Rd.of_own hgv3) (Rd.of_own hwv3)).mono ?_; rintro e v4 ⟨rfl, hc4⟩; have hwF := below2 hwE hc4; have hRF := (hc4.block g9 (block_lt hRE)).trans hRE))
                  go_wp2
                  go_roundw
                  case rel => exact ⟨k + 1, m2, m3, X1, Y1, by omega, by go_num, Hm2.out, hT3.bb.trans Hmc.out, ((HP3.out.on hyd).other HQd hT3 HDY.out.symm).on hc4, Q4.on hc4, hide ⟨(HDY.out.symm.turns hT3 (fun i hi => (HP3.out.on hyd).is.lt i hi)).symm, HAp.out⟩⟩
                  case measure => simp [intOf]; omega
                  skip
                · have hb0' : (kd != 0) = true := (by simp [hk'])
                  have hb1' : (kd != 1) = false := (by simp [hk'])
                  clear hk'
                  go_upto_region 13 with fail
                  have HK2 : ∀ x, Below w.heap.size w x → x.heap[g9]? = some (anO ⟨cd, qs, qg, qc, ql, ⟨r1, r2, r3, r4, r5⟩, gens, words⟩ (.slice Ag gens.length kg) (.slice Aw words.length kw)) → x.cell? ⟨b1, o1 + k * 12, none⟩ = some (.int .i64 task) ∧ x.cell? ⟨b1, o1 + k * 12 + 1, none⟩ = some (.int .i64 kd) ∧ x.cell? ⟨b1, o1 + k * 12 + 2, none⟩ = some (.int .i64 tp) ∧ x.cell? ⟨b1, o1 + k * 12 + 3, none⟩ = some (.int .i64 sb) ∧ x.cell? ⟨b1, o1 + k * 12 + 4, none⟩ = some (.int .i64 cp) ∧ x.cell? ⟨b1, o1 + k * 12 + 5, none⟩ = some (.int .i64 rk) ∧ x.cell? ⟨b1, o1 + k * 12 + 6, none⟩ = some (.int .i64 so) ∧ x.cell? ⟨b1, o1 + k * 12 + 7, none⟩ = some (.int .i64 md) ∧ x.cell? ⟨b1, o1 + k * 12 + 8, none⟩ = some (.int .i64 fl) ∧ x.cell? ⟨b1, o1 + k * 12 + 9, none⟩ = some (.bool fr) ∧ x.cell? ⟨b1, o1 + k * 12 + 10, none⟩ = some (sv) ∧ x.cell? ⟨b1, o1 + k * 12 + 11, none⟩ = some (wv) ∧ Below w.heap.size w x ∧ x.cell? ⟨g9, 0, none⟩ = some (.int .i64 cd) ∧ x.cell? ⟨g9, 1, none⟩ = some (.int .i64 (qs : Nat)) ∧ x.cell? ⟨g9, 2, none⟩ = some (.int .u64 (qg : Nat)) ∧ x.cell? ⟨g9, 3, none⟩ = some (.int .i64 (qc : Nat)) ∧ x.cell? ⟨g9, 4, none⟩ = some (.int .u64 (ql : Nat)) ∧ x.cell? ⟨g9, 5, none⟩ = some (.int .i64 r1) ∧ x.cell? ⟨g9, 6, none⟩ = some (.int .i64 r2) ∧ x.cell? ⟨g9, 7, none⟩ = some (.bool r3) ∧ x.cell? ⟨g9, 8, none⟩ = some (.int .i64 r4) ∧ x.cell? ⟨g9, 9, none⟩ = some (.int .u64 (r5 : Nat)) ∧ x.cell? ⟨g9, 10, none⟩ = some (.slice Ag gens.length kg) ∧ x.cell? ⟨g9, 11, none⟩ = some (.slice Aw words.length kw) := fun x hb hx => by
                    have h := HK0.out x hb
                    have h2 := row12 hx
                    exact ⟨h.1, h.2.1, h.2.2.1, h.2.2.2.1, h.2.2.2.2.1, h.2.2.2.2.2.1, h.2.2.2.2.2.2.1, h.2.2.2.2.2.2.2.1, h.2.2.2.2.2.2.2.2.1, h.2.2.2.2.2.2.2.2.2.1, h.2.2.2.2.2.2.2.2.2.2.1, h.2.2.2.2.2.2.2.2.2.2.2.1, hb, h2.1, h2.2.1, h2.2.2.1, h2.2.2.2.1, h2.2.2.2.2.1, h2.2.2.2.2.2.1, h2.2.2.2.2.2.2.1, h2.2.2.2.2.2.2.2.1, h2.2.2.2.2.2.2.2.2.1, h2.2.2.2.2.2.2.2.2.2.1, h2.2.2.2.2.2.2.2.2.2.2.1, h2.2.2.2.2.2.2.2.2.2.2.2.1⟩
                  have HK3 := HK2 y.drew HP3.out.below.drew hR9
                  have hyd : Below y.heap.size y y.drew := (Below.refl _ _).drew
                  have HQd : Play w y.drew k m' T := HQ3.out.on hyd
                  have HEq := hide (fun x gv' wv' h1 h2 h3 h4 => equal_any ⟨cd, qs, qg, qc, ql, ⟨r1, r2, r3, r4, r5⟩, gens, words⟩ (.slice Ag gens.length kg) (.slice Aw words.length kw) gv' wv' x h1 h2 h3 h4)
                  simp only at HEq HE
                  go_region_held3 (fun x => x.cell? ⟨b1, o1 + k * 12, none⟩ = some (.int .i64 task) ∧ x.cell? ⟨b1, o1 + k * 12 + 1, none⟩ = some (.int .i64 kd) ∧ x.cell? ⟨b1, o1 + k * 12 + 2, none⟩ = some (.int .i64 tp) ∧ x.cell? ⟨b1, o1 + k * 12 + 3, none⟩ = some (.int .i64 sb) ∧ x.cell? ⟨b1, o1 + k * 12 + 4, none⟩ = some (.int .i64 cp) ∧ x.cell? ⟨b1, o1 + k * 12 + 5, none⟩ = some (.int .i64 rk) ∧ x.cell? ⟨b1, o1 + k * 12 + 6, none⟩ = some (.int .i64 so) ∧ x.cell? ⟨b1, o1 + k * 12 + 7, none⟩ = some (.int .i64 md) ∧ x.cell? ⟨b1, o1 + k * 12 + 8, none⟩ = some (.int .i64 fl) ∧ x.cell? ⟨b1, o1 + k * 12 + 9, none⟩ = some (.bool fr) ∧ x.cell? ⟨b1, o1 + k * 12 + 10, none⟩ = some (sv) ∧ x.cell? ⟨b1, o1 + k * 12 + 11, none⟩ = some (wv) ∧ Below w.heap.size w x ∧ x.cell? ⟨g9, 0, none⟩ = some (.int .i64 cd) ∧ x.cell? ⟨g9, 1, none⟩ = some (.int .i64 (qs : Nat)) ∧ x.cell? ⟨g9, 2, none⟩ = some (.int .u64 (qg : Nat)) ∧ x.cell? ⟨g9, 3, none⟩ = some (.int .i64 (qc : Nat)) ∧ x.cell? ⟨g9, 4, none⟩ = some (.int .u64 (ql : Nat)) ∧ x.cell? ⟨g9, 5, none⟩ = some (.int .i64 r1) ∧ x.cell? ⟨g9, 6, none⟩ = some (.int .i64 r2) ∧ x.cell? ⟨g9, 7, none⟩ = some (.bool r3) ∧ x.cell? ⟨g9, 8, none⟩ = some (.int .i64 r4) ∧ x.cell? ⟨g9, 9, none⟩ = some (.int .u64 (r5 : Nat)) ∧ x.cell? ⟨g9, 10, none⟩ = some (.slice Ag gens.length kg) ∧ x.cell? ⟨g9, 11, none⟩ = some (.slice Aw words.length kw))
                    (first | with_reducible assumption | with_reducible exact HK3 | (refine HK2 _ ?_ ?_ <;> with_reducible assumption))
                    (first
                      | (go_at_call 13; refine (HE.out _ (by with_reducible exact HQd)).mono ?_; rintro e v3 ⟨m3, gv3, wv3, rfl, Q4, hT3, hgv3, hwv3, -⟩; have hwE := Q4.below; have hRE : v3.heap[g9]? = some (anO ⟨cd, qs, qg, qc, ql, ⟨r1, r2, r3, r4, r5⟩, gens, words⟩ (.slice Ag gens.length kg) (.slice Aw words.length kw)) := ((hT3.block g9 (block_lt hR9) (fun ho => by have := Hmq.out _ ho; omega)).trans hR9); obtain ⟨Bg, jg, rfl, -⟩ := (Rd.of_own hgv3).shape; obtain ⟨Bw, jw, rfl, -⟩ := (Rd.of_own hwv3).shape; have hG1 := HRG.out.keepAt (w' := v3) hT3.size (fun q hq => hT3.block q (Hfr.out q (.inl hq)).2 (fun ho => by have := Hmq.out _ ho; have := (Hfr.out q (.inl hq)).1; omega)); have hW1 := HRW.out.keepAt (w' := v3) hT3.size (fun q hq => hT3.block q (Hfr.out q (.inr hq)).2 (fun ho => by have := Hmq.out _ ho; have := (Hfr.out q (.inr hq)).1; omega)))
                      | (go_at_call 17; refine (HEq.out v3 _ _ hG1 hW1 (Rd.of_own hgv3) (Rd.of_own hwv3)).mono ?_; rintro e v4 ⟨rfl, hc4⟩; have hwF := below2 hwE hc4; have hRF := (hc4.block g9 (block_lt hRE)).trans hRE))
                  go_wp2
                  go_roundw
                  case rel => exact ⟨k + 1, m2, m3, X1, Y1, by omega, by go_num, Hm2.out, hT3.bb.trans Hmc.out, ((HP3.out.on hyd).other HQd hT3 HDY.out.symm).on hc4, Q4.on hc4, hide ⟨(HDY.out.symm.turns hT3 (fun i hi => (HP3.out.on hyd).is.lt i hi)).symm, HAp.out⟩⟩
                  case measure => simp [intOf]; omega
                  skip
                · have hb0' : (kd != 0) = true := (by simp [hk'])
                  have hb1' : (kd != 1) = true := (by simp [hk'])
                  have hb7' : (kd != 7) = false := (by simp [hk'])
                  clear hk'
                  go_upto_region 13 with fail
                  have HK2 : ∀ x, Below w.heap.size w x → x.heap[g9]? = some (anO ⟨cd, qs, qg, qc, ql, ⟨r1, r2, r3, r4, r5⟩, gens, words⟩ (.slice Ag gens.length kg) (.slice Aw words.length kw)) → x.cell? ⟨b1, o1 + k * 12, none⟩ = some (.int .i64 task) ∧ x.cell? ⟨b1, o1 + k * 12 + 1, none⟩ = some (.int .i64 kd) ∧ x.cell? ⟨b1, o1 + k * 12 + 2, none⟩ = some (.int .i64 tp) ∧ x.cell? ⟨b1, o1 + k * 12 + 3, none⟩ = some (.int .i64 sb) ∧ x.cell? ⟨b1, o1 + k * 12 + 4, none⟩ = some (.int .i64 cp) ∧ x.cell? ⟨b1, o1 + k * 12 + 5, none⟩ = some (.int .i64 rk) ∧ x.cell? ⟨b1, o1 + k * 12 + 6, none⟩ = some (.int .i64 so) ∧ x.cell? ⟨b1, o1 + k * 12 + 7, none⟩ = some (.int .i64 md) ∧ x.cell? ⟨b1, o1 + k * 12 + 8, none⟩ = some (.int .i64 fl) ∧ x.cell? ⟨b1, o1 + k * 12 + 9, none⟩ = some (.bool fr) ∧ x.cell? ⟨b1, o1 + k * 12 + 10, none⟩ = some (sv) ∧ x.cell? ⟨b1, o1 + k * 12 + 11, none⟩ = some (wv) ∧ Below w.heap.size w x ∧ x.cell? ⟨g9, 0, none⟩ = some (.int .i64 cd) ∧ x.cell? ⟨g9, 1, none⟩ = some (.int .i64 (qs : Nat)) ∧ x.cell? ⟨g9, 2, none⟩ = some (.int .u64 (qg : Nat)) ∧ x.cell? ⟨g9, 3, none⟩ = some (.int .i64 (qc : Nat)) ∧ x.cell? ⟨g9, 4, none⟩ = some (.int .u64 (ql : Nat)) ∧ x.cell? ⟨g9, 5, none⟩ = some (.int .i64 r1) ∧ x.cell? ⟨g9, 6, none⟩ = some (.int .i64 r2) ∧ x.cell? ⟨g9, 7, none⟩ = some (.bool r3) ∧ x.cell? ⟨g9, 8, none⟩ = some (.int .i64 r4) ∧ x.cell? ⟨g9, 9, none⟩ = some (.int .u64 (r5 : Nat)) ∧ x.cell? ⟨g9, 10, none⟩ = some (.slice Ag gens.length kg) ∧ x.cell? ⟨g9, 11, none⟩ = some (.slice Aw words.length kw) := fun x hb hx => by
                    have h := HK0.out x hb
                    have h2 := row12 hx
                    exact ⟨h.1, h.2.1, h.2.2.1, h.2.2.2.1, h.2.2.2.2.1, h.2.2.2.2.2.1, h.2.2.2.2.2.2.1, h.2.2.2.2.2.2.2.1, h.2.2.2.2.2.2.2.2.1, h.2.2.2.2.2.2.2.2.2.1, h.2.2.2.2.2.2.2.2.2.2.1, h.2.2.2.2.2.2.2.2.2.2.2.1, hb, h2.1, h2.2.1, h2.2.2.1, h2.2.2.2.1, h2.2.2.2.2.1, h2.2.2.2.2.2.1, h2.2.2.2.2.2.2.1, h2.2.2.2.2.2.2.2.1, h2.2.2.2.2.2.2.2.2.1, h2.2.2.2.2.2.2.2.2.2.1, h2.2.2.2.2.2.2.2.2.2.2.1, h2.2.2.2.2.2.2.2.2.2.2.2.1⟩
                  have HK3 := HK2 y.drew HP3.out.below.drew hR9
                  have hyd : Below y.heap.size y y.drew := (Below.refl _ _).drew
                  have HQd : Play w y.drew k m' T := HQ3.out.on hyd
                  have HEq := hide (fun x gv' wv' h1 h2 h3 h4 => equal_any ⟨cd, qs, qg, qc, ql, ⟨r1, r2, r3, r4, r5⟩, gens, words⟩ (.slice Ag gens.length kg) (.slice Aw words.length kw) gv' wv' x h1 h2 h3 h4)
                  simp only at HEq HE
                  go_region_held3 (fun x => x.cell? ⟨b1, o1 + k * 12, none⟩ = some (.int .i64 task) ∧ x.cell? ⟨b1, o1 + k * 12 + 1, none⟩ = some (.int .i64 kd) ∧ x.cell? ⟨b1, o1 + k * 12 + 2, none⟩ = some (.int .i64 tp) ∧ x.cell? ⟨b1, o1 + k * 12 + 3, none⟩ = some (.int .i64 sb) ∧ x.cell? ⟨b1, o1 + k * 12 + 4, none⟩ = some (.int .i64 cp) ∧ x.cell? ⟨b1, o1 + k * 12 + 5, none⟩ = some (.int .i64 rk) ∧ x.cell? ⟨b1, o1 + k * 12 + 6, none⟩ = some (.int .i64 so) ∧ x.cell? ⟨b1, o1 + k * 12 + 7, none⟩ = some (.int .i64 md) ∧ x.cell? ⟨b1, o1 + k * 12 + 8, none⟩ = some (.int .i64 fl) ∧ x.cell? ⟨b1, o1 + k * 12 + 9, none⟩ = some (.bool fr) ∧ x.cell? ⟨b1, o1 + k * 12 + 10, none⟩ = some (sv) ∧ x.cell? ⟨b1, o1 + k * 12 + 11, none⟩ = some (wv) ∧ Below w.heap.size w x ∧ x.cell? ⟨g9, 0, none⟩ = some (.int .i64 cd) ∧ x.cell? ⟨g9, 1, none⟩ = some (.int .i64 (qs : Nat)) ∧ x.cell? ⟨g9, 2, none⟩ = some (.int .u64 (qg : Nat)) ∧ x.cell? ⟨g9, 3, none⟩ = some (.int .i64 (qc : Nat)) ∧ x.cell? ⟨g9, 4, none⟩ = some (.int .u64 (ql : Nat)) ∧ x.cell? ⟨g9, 5, none⟩ = some (.int .i64 r1) ∧ x.cell? ⟨g9, 6, none⟩ = some (.int .i64 r2) ∧ x.cell? ⟨g9, 7, none⟩ = some (.bool r3) ∧ x.cell? ⟨g9, 8, none⟩ = some (.int .i64 r4) ∧ x.cell? ⟨g9, 9, none⟩ = some (.int .u64 (r5 : Nat)) ∧ x.cell? ⟨g9, 10, none⟩ = some (.slice Ag gens.length kg) ∧ x.cell? ⟨g9, 11, none⟩ = some (.slice Aw words.length kw))
                    (first | with_reducible assumption | with_reducible exact HK3 | (refine HK2 _ ?_ ?_ <;> with_reducible assumption))
                    (first
                      | (go_at_call 13; refine (HE.out _ (by with_reducible exact HQd)).mono ?_; rintro e v3 ⟨m3, gv3, wv3, rfl, Q4, hT3, hgv3, hwv3, -⟩; have hwE := Q4.below; have hRE : v3.heap[g9]? = some (anO ⟨cd, qs, qg, qc, ql, ⟨r1, r2, r3, r4, r5⟩, gens, words⟩ (.slice Ag gens.length kg) (.slice Aw words.length kw)) := ((hT3.block g9 (block_lt hR9) (fun ho => by have := Hmq.out _ ho; omega)).trans hR9); obtain ⟨Bg, jg, rfl, -⟩ := (Rd.of_own hgv3).shape; obtain ⟨Bw, jw, rfl, -⟩ := (Rd.of_own hwv3).shape; have hG1 := HRG.out.keepAt (w' := v3) hT3.size (fun q hq => hT3.block q (Hfr.out q (.inl hq)).2 (fun ho => by have := Hmq.out _ ho; have := (Hfr.out q (.inl hq)).1; omega)); have hW1 := HRW.out.keepAt (w' := v3) hT3.size (fun q hq => hT3.block q (Hfr.out q (.inr hq)).2 (fun ho => by have := Hmq.out _ ho; have := (Hfr.out q (.inr hq)).1; omega)))
                      | (go_at_call 17; refine (HEq.out v3 _ _ hG1 hW1 (Rd.of_own hgv3) (Rd.of_own hwv3)).mono ?_; rintro e v4 ⟨rfl, hc4⟩; have hwF := below2 hwE hc4; have hRF := (hc4.block g9 (block_lt hRE)).trans hRE))
                  go_wp2
                  go_roundw
                  case rel => exact ⟨k + 1, m2, m3, X1, Y1, by omega, by go_num, Hm2.out, hT3.bb.trans Hmc.out, ((HP3.out.on hyd).other HQd hT3 HDY.out.symm).on hc4, Q4.on hc4, hide ⟨(HDY.out.symm.turns hT3 (fun i hi => (HP3.out.on hyd).is.lt i hi)).symm, HAp.out⟩⟩
                  case measure => simp [intOf]; omega
                  skip
                · have hb0' : (kd != 0) = true := (by simp [hk'])
                  have hb1' : (kd != 1) = true := (by simp [hk'])
                  have hb7' : (kd != 7) = true := (by simp [hk'])
                  have hb8' : (kd != 8) = false := (by simp [hk'])
                  clear hk'
                  go_upto_region 13 with fail
                  have HK2 : ∀ x, Below w.heap.size w x → x.heap[g9]? = some (anO ⟨cd, qs, qg, qc, ql, ⟨r1, r2, r3, r4, r5⟩, gens, words⟩ (.slice Ag gens.length kg) (.slice Aw words.length kw)) → x.cell? ⟨b1, o1 + k * 12, none⟩ = some (.int .i64 task) ∧ x.cell? ⟨b1, o1 + k * 12 + 1, none⟩ = some (.int .i64 kd) ∧ x.cell? ⟨b1, o1 + k * 12 + 2, none⟩ = some (.int .i64 tp) ∧ x.cell? ⟨b1, o1 + k * 12 + 3, none⟩ = some (.int .i64 sb) ∧ x.cell? ⟨b1, o1 + k * 12 + 4, none⟩ = some (.int .i64 cp) ∧ x.cell? ⟨b1, o1 + k * 12 + 5, none⟩ = some (.int .i64 rk) ∧ x.cell? ⟨b1, o1 + k * 12 + 6, none⟩ = some (.int .i64 so) ∧ x.cell? ⟨b1, o1 + k * 12 + 7, none⟩ = some (.int .i64 md) ∧ x.cell? ⟨b1, o1 + k * 12 + 8, none⟩ = some (.int .i64 fl) ∧ x.cell? ⟨b1, o1 + k * 12 + 9, none⟩ = some (.bool fr) ∧ x.cell? ⟨b1, o1 + k * 12 + 10, none⟩ = some (sv) ∧ x.cell? ⟨b1, o1 + k * 12 + 11, none⟩ = some (wv) ∧ Below w.heap.size w x ∧ x.cell? ⟨g9, 0, none⟩ = some (.int .i64 cd) ∧ x.cell? ⟨g9, 1, none⟩ = some (.int .i64 (qs : Nat)) ∧ x.cell? ⟨g9, 2, none⟩ = some (.int .u64 (qg : Nat)) ∧ x.cell? ⟨g9, 3, none⟩ = some (.int .i64 (qc : Nat)) ∧ x.cell? ⟨g9, 4, none⟩ = some (.int .u64 (ql : Nat)) ∧ x.cell? ⟨g9, 5, none⟩ = some (.int .i64 r1) ∧ x.cell? ⟨g9, 6, none⟩ = some (.int .i64 r2) ∧ x.cell? ⟨g9, 7, none⟩ = some (.bool r3) ∧ x.cell? ⟨g9, 8, none⟩ = some (.int .i64 r4) ∧ x.cell? ⟨g9, 9, none⟩ = some (.int .u64 (r5 : Nat)) ∧ x.cell? ⟨g9, 10, none⟩ = some (.slice Ag gens.length kg) ∧ x.cell? ⟨g9, 11, none⟩ = some (.slice Aw words.length kw) := fun x hb hx => by
                    have h := HK0.out x hb
                    have h2 := row12 hx
                    exact ⟨h.1, h.2.1, h.2.2.1, h.2.2.2.1, h.2.2.2.2.1, h.2.2.2.2.2.1, h.2.2.2.2.2.2.1, h.2.2.2.2.2.2.2.1, h.2.2.2.2.2.2.2.2.1, h.2.2.2.2.2.2.2.2.2.1, h.2.2.2.2.2.2.2.2.2.2.1, h.2.2.2.2.2.2.2.2.2.2.2.1, hb, h2.1, h2.2.1, h2.2.2.1, h2.2.2.2.1, h2.2.2.2.2.1, h2.2.2.2.2.2.1, h2.2.2.2.2.2.2.1, h2.2.2.2.2.2.2.2.1, h2.2.2.2.2.2.2.2.2.1, h2.2.2.2.2.2.2.2.2.2.1, h2.2.2.2.2.2.2.2.2.2.2.1, h2.2.2.2.2.2.2.2.2.2.2.2.1⟩
                  have HK3 := HK2 y.drew HP3.out.below.drew hR9
                  have hyd : Below y.heap.size y y.drew := (Below.refl _ _).drew
                  have HQd : Play w y.drew k m' T := HQ3.out.on hyd
                  have HEq := hide (fun x gv' wv' h1 h2 h3 h4 => equal_any ⟨cd, qs, qg, qc, ql, ⟨r1, r2, r3, r4, r5⟩, gens, words⟩ (.slice Ag gens.length kg) (.slice Aw words.length kw) gv' wv' x h1 h2 h3 h4)
                  simp only at HEq HE
                  go_region_held3 (fun x => x.cell? ⟨b1, o1 + k * 12, none⟩ = some (.int .i64 task) ∧ x.cell? ⟨b1, o1 + k * 12 + 1, none⟩ = some (.int .i64 kd) ∧ x.cell? ⟨b1, o1 + k * 12 + 2, none⟩ = some (.int .i64 tp) ∧ x.cell? ⟨b1, o1 + k * 12 + 3, none⟩ = some (.int .i64 sb) ∧ x.cell? ⟨b1, o1 + k * 12 + 4, none⟩ = some (.int .i64 cp) ∧ x.cell? ⟨b1, o1 + k * 12 + 5, none⟩ = some (.int .i64 rk) ∧ x.cell? ⟨b1, o1 + k * 12 + 6, none⟩ = some (.int .i64 so) ∧ x.cell? ⟨b1, o1 + k * 12 + 7, none⟩ = some (.int .i64 md) ∧ x.cell? ⟨b1, o1 + k * 12 + 8, none⟩ = some (.int .i64 fl) ∧ x.cell? ⟨b1, o1 + k * 12 + 9, none⟩ = some (.bool fr) ∧ x.cell? ⟨b1, o1 + k * 12 + 10, none⟩ = some (sv) ∧ x.cell? ⟨b1, o1 + k * 12 + 11, none⟩ = some (wv) ∧ Below w.heap.size w x ∧ x.cell? ⟨g9, 0, none⟩ = some (.int .i64 cd) ∧ x.cell? ⟨g9, 1, none⟩ = some (.int .i64 (qs : Nat)) ∧ x.cell? ⟨g9, 2, none⟩ = some (.int .u64 (qg : Nat)) ∧ x.cell? ⟨g9, 3, none⟩ = some (.int .i64 (qc : Nat)) ∧ x.cell? ⟨g9, 4, none⟩ = some (.int .u64 (ql : Nat)) ∧ x.cell? ⟨g9, 5, none⟩ = some (.int .i64 r1) ∧ x.cell? ⟨g9, 6, none⟩ = some (.int .i64 r2) ∧ x.cell? ⟨g9, 7, none⟩ = some (.bool r3) ∧ x.cell? ⟨g9, 8, none⟩ = some (.int .i64 r4) ∧ x.cell? ⟨g9, 9, none⟩ = some (.int .u64 (r5 : Nat)) ∧ x.cell? ⟨g9, 10, none⟩ = some (.slice Ag gens.length kg) ∧ x.cell? ⟨g9, 11, none⟩ = some (.slice Aw words.length kw))
                    (first | with_reducible assumption | with_reducible exact HK3 | (refine HK2 _ ?_ ?_ <;> with_reducible assumption))
                    (first
                      | (go_at_call 13; refine (HE.out _ (by with_reducible exact HQd)).mono ?_; rintro e v3 ⟨m3, gv3, wv3, rfl, Q4, hT3, hgv3, hwv3, -⟩; have hwE := Q4.below; have hRE : v3.heap[g9]? = some (anO ⟨cd, qs, qg, qc, ql, ⟨r1, r2, r3, r4, r5⟩, gens, words⟩ (.slice Ag gens.length kg) (.slice Aw words.length kw)) := ((hT3.block g9 (block_lt hR9) (fun ho => by have := Hmq.out _ ho; omega)).trans hR9); obtain ⟨Bg, jg, rfl, -⟩ := (Rd.of_own hgv3).shape; obtain ⟨Bw, jw, rfl, -⟩ := (Rd.of_own hwv3).shape; have hG1 := HRG.out.keepAt (w' := v3) hT3.size (fun q hq => hT3.block q (Hfr.out q (.inl hq)).2 (fun ho => by have := Hmq.out _ ho; have := (Hfr.out q (.inl hq)).1; omega)); have hW1 := HRW.out.keepAt (w' := v3) hT3.size (fun q hq => hT3.block q (Hfr.out q (.inr hq)).2 (fun ho => by have := Hmq.out _ ho; have := (Hfr.out q (.inr hq)).1; omega)))
                      | (go_at_call 17; refine (HEq.out v3 _ _ hG1 hW1 (Rd.of_own hgv3) (Rd.of_own hwv3)).mono ?_; rintro e v4 ⟨rfl, hc4⟩; have hwF := below2 hwE hc4; have hRF := (hc4.block g9 (block_lt hRE)).trans hRE))
                  go_wp2
                  go_roundw
                  case rel => exact ⟨k + 1, m2, m3, X1, Y1, by omega, by go_num, Hm2.out, hT3.bb.trans Hmc.out, ((HP3.out.on hyd).other HQd hT3 HDY.out.symm).on hc4, Q4.on hc4, hide ⟨(HDY.out.symm.turns hT3 (fun i hi => (HP3.out.on hyd).is.lt i hi)).symm, HAp.out⟩⟩
                  case measure => simp [intOf]; omega
                  skip
              · have hk0 : kd ≠ 0 := (by omega)
                have hk1 : kd ≠ 1 := (by omega)
                have hk7 : kd ≠ 7 := (by omega)
                have hk8 : kd ≠ 8 := (by omega)
                have HAp := hide (HApA.out htk hk0 hk1 hk7 hk8)
                subst htk
                have hb0' : (kd != 0) = true := (by simp [hk0])
                have hb1' : (kd != 1) = true := (by simp [hk1])
                have hb7' : (kd != 7) = true := (by simp [hk7])
                have hb8' : (kd != 8) = true := (by simp [hk8])
                clear HApA HApB HE hkk
                go_wp2
                go_roundw
                case rel => exact ⟨k + 1, m2, m', X1, T, by omega, by go_num, Hm2.out, Hmc.out, HP3.out, HQ3.out.mono (by omega) (by omega), hide ⟨HDY.out, HAp.out⟩⟩
                case measure => simp [intOf]; omega
            · have htk' : (task == tk) = false := (by simp [htk])
              obtain ⟨hYX, hAp⟩ := HApB.out (.inl htk)
              subst hYX
              have HAp := hide hAp
              clear HApA HApB hAp
              go_upto_region 13 with fail
              have HK2 : ∀ x, Below w.heap.size w x → x.heap[g9]? = some (anO ⟨cd, qs, qg, qc, ql, ⟨r1, r2, r3, r4, r5⟩, gens, words⟩ (.slice Ag gens.length kg) (.slice Aw words.length kw)) → x.cell? ⟨b1, o1 + k * 12, none⟩ = some (.int .i64 task) ∧ x.cell? ⟨b1, o1 + k * 12 + 1, none⟩ = some (.int .i64 kd) ∧ x.cell? ⟨b1, o1 + k * 12 + 2, none⟩ = some (.int .i64 tp) ∧ x.cell? ⟨b1, o1 + k * 12 + 3, none⟩ = some (.int .i64 sb) ∧ x.cell? ⟨b1, o1 + k * 12 + 4, none⟩ = some (.int .i64 cp) ∧ x.cell? ⟨b1, o1 + k * 12 + 5, none⟩ = some (.int .i64 rk) ∧ x.cell? ⟨b1, o1 + k * 12 + 6, none⟩ = some (.int .i64 so) ∧ x.cell? ⟨b1, o1 + k * 12 + 7, none⟩ = some (.int .i64 md) ∧ x.cell? ⟨b1, o1 + k * 12 + 8, none⟩ = some (.int .i64 fl) ∧ x.cell? ⟨b1, o1 + k * 12 + 9, none⟩ = some (.bool fr) ∧ x.cell? ⟨b1, o1 + k * 12 + 10, none⟩ = some (sv) ∧ x.cell? ⟨b1, o1 + k * 12 + 11, none⟩ = some (wv) ∧ Below w.heap.size w x ∧ x.cell? ⟨g9, 0, none⟩ = some (.int .i64 cd) ∧ x.cell? ⟨g9, 1, none⟩ = some (.int .i64 (qs : Nat)) ∧ x.cell? ⟨g9, 2, none⟩ = some (.int .u64 (qg : Nat)) ∧ x.cell? ⟨g9, 3, none⟩ = some (.int .i64 (qc : Nat)) ∧ x.cell? ⟨g9, 4, none⟩ = some (.int .u64 (ql : Nat)) ∧ x.cell? ⟨g9, 5, none⟩ = some (.int .i64 r1) ∧ x.cell? ⟨g9, 6, none⟩ = some (.int .i64 r2) ∧ x.cell? ⟨g9, 7, none⟩ = some (.bool r3) ∧ x.cell? ⟨g9, 8, none⟩ = some (.int .i64 r4) ∧ x.cell? ⟨g9, 9, none⟩ = some (.int .u64 (r5 : Nat)) ∧ x.cell? ⟨g9, 10, none⟩ = some (.slice Ag gens.length kg) ∧ x.cell? ⟨g9, 11, none⟩ = some (.slice Aw words.length kw) := fun x hb hx => by
                have h := HK0.out x hb
                have h2 := row12 hx
                exact ⟨h.1, h.2.1, h.2.2.1, h.2.2.2.1, h.2.2.2.2.1, h.2.2.2.2.2.1, h.2.2.2.2.2.2.1, h.2.2.2.2.2.2.2.1, h.2.2.2.2.2.2.2.2.1, h.2.2.2.2.2.2.2.2.2.1, h.2.2.2.2.2.2.2.2.2.2.1, h.2.2.2.2.2.2.2.2.2.2.2.1, hb, h2.1, h2.2.1, h2.2.2.1, h2.2.2.2.1, h2.2.2.2.2.1, h2.2.2.2.2.2.1, h2.2.2.2.2.2.2.1, h2.2.2.2.2.2.2.2.1, h2.2.2.2.2.2.2.2.2.1, h2.2.2.2.2.2.2.2.2.2.1, h2.2.2.2.2.2.2.2.2.2.2.1, h2.2.2.2.2.2.2.2.2.2.2.2.1⟩
              have HK3 := HK2 y.drew HP3.out.below.drew hR9
              have hyd : Below y.heap.size y y.drew := (Below.refl _ _).drew
              have HQd : Play w y.drew k m' T := HQ3.out.on hyd
              have HEq := hide (fun x gv' wv' h1 h2 h3 h4 => equal_any ⟨cd, qs, qg, qc, ql, ⟨r1, r2, r3, r4, r5⟩, gens, words⟩ (.slice Ag gens.length kg) (.slice Aw words.length kw) gv' wv' x h1 h2 h3 h4)
              simp only at HEq HE
              go_region_held3 (fun x => x.cell? ⟨b1, o1 + k * 12, none⟩ = some (.int .i64 task) ∧ x.cell? ⟨b1, o1 + k * 12 + 1, none⟩ = some (.int .i64 kd) ∧ x.cell? ⟨b1, o1 + k * 12 + 2, none⟩ = some (.int .i64 tp) ∧ x.cell? ⟨b1, o1 + k * 12 + 3, none⟩ = some (.int .i64 sb) ∧ x.cell? ⟨b1, o1 + k * 12 + 4, none⟩ = some (.int .i64 cp) ∧ x.cell? ⟨b1, o1 + k * 12 + 5, none⟩ = some (.int .i64 rk) ∧ x.cell? ⟨b1, o1 + k * 12 + 6, none⟩ = some (.int .i64 so) ∧ x.cell? ⟨b1, o1 + k * 12 + 7, none⟩ = some (.int .i64 md) ∧ x.cell? ⟨b1, o1 + k * 12 + 8, none⟩ = some (.int .i64 fl) ∧ x.cell? ⟨b1, o1 + k * 12 + 9, none⟩ = some (.bool fr) ∧ x.cell? ⟨b1, o1 + k * 12 + 10, none⟩ = some (sv) ∧ x.cell? ⟨b1, o1 + k * 12 + 11, none⟩ = some (wv) ∧ Below w.heap.size w x ∧ x.cell? ⟨g9, 0, none⟩ = some (.int .i64 cd) ∧ x.cell? ⟨g9, 1, none⟩ = some (.int .i64 (qs : Nat)) ∧ x.cell? ⟨g9, 2, none⟩ = some (.int .u64 (qg : Nat)) ∧ x.cell? ⟨g9, 3, none⟩ = some (.int .i64 (qc : Nat)) ∧ x.cell? ⟨g9, 4, none⟩ = some (.int .u64 (ql : Nat)) ∧ x.cell? ⟨g9, 5, none⟩ = some (.int .i64 r1) ∧ x.cell? ⟨g9, 6, none⟩ = some (.int .i64 r2) ∧ x.cell? ⟨g9, 7, none⟩ = some (.bool r3) ∧ x.cell? ⟨g9, 8, none⟩ = some (.int .i64 r4) ∧ x.cell? ⟨g9, 9, none⟩ = some (.int .u64 (r5 : Nat)) ∧ x.cell? ⟨g9, 10, none⟩ = some (.slice Ag gens.length kg) ∧ x.cell? ⟨g9, 11, none⟩ = some (.slice Aw words.length kw))
                (first | with_reducible assumption | with_reducible exact HK3 | (refine HK2 _ ?_ ?_ <;> with_reducible assumption))
                (first
                  | (go_at_call 13; refine (HE.out _ (by with_reducible exact HQd)).mono ?_; rintro e v3 ⟨m3, gv3, wv3, rfl, Q4, hT3, hgv3, hwv3, -⟩; have hwE := Q4.below; have hRE : v3.heap[g9]? = some (anO ⟨cd, qs, qg, qc, ql, ⟨r1, r2, r3, r4, r5⟩, gens, words⟩ (.slice Ag gens.length kg) (.slice Aw words.length kw)) := ((hT3.block g9 (block_lt hR9) (fun ho => by have := Hmq.out _ ho; omega)).trans hR9); obtain ⟨Bg, jg, rfl, -⟩ := (Rd.of_own hgv3).shape; obtain ⟨Bw, jw, rfl, -⟩ := (Rd.of_own hwv3).shape; have hG1 := HRG.out.keepAt (w' := v3) hT3.size (fun q hq => hT3.block q (Hfr.out q (.inl hq)).2 (fun ho => by have := Hmq.out _ ho; have := (Hfr.out q (.inl hq)).1; omega)); have hW1 := HRW.out.keepAt (w' := v3) hT3.size (fun q hq => hT3.block q (Hfr.out q (.inr hq)).2 (fun ho => by have := Hmq.out _ ho; have := (Hfr.out q (.inr hq)).1; omega)))
                  | (go_at_call 17; refine (HEq.out v3 _ _ hG1 hW1 (Rd.of_own hgv3) (Rd.of_own hwv3)).mono ?_; rintro e v4 ⟨rfl, hc4⟩; have hwF := below2 hwE hc4; have hRF := (hc4.block g9 (block_lt hRE)).trans hRE))
              go_wp2
              go_roundw
              case rel => exact ⟨k + 1, m2, m3, X1, Y1, by omega, by go_num, Hm2.out, hT3.bb.trans Hmc.out, ((HP3.out.on hyd).other HQd hT3 HDY.out.symm).on hc4, Q4.on hc4, hide ⟨(HDY.out.symm.turns hT3 (fun i hi => (HP3.out.on hyd).is.lt i hi)).symm, HAp.out⟩⟩
              case measure => simp [intOf]; omega
              skip)
        · have hkn : k = n := by omega
          subst hkn
          have HSa := hide (fun x (hb : Below wr.heap.size wr x) => state_any x (P.is.below hb))
          have HSb := hide (fun x (hb : Below wr.heap.size wr x) => state_any x (Q.is.below hb))
          have hst := HDA.out.2.st
          rw [hmb] at HSa
          rw [hmc] at HSb
          rw [hst] at HSb
          obtain ⟨⟨s1, s2, s3, s4, s5⟩, hs⟩ : ∃ r, r = S.st := ⟨_, rfl⟩
          rw [← hs] at HSa HSb
          have hwr := P.below
          clear hlt P Q hst hs
          go_wp2_with fail
          refine (HSa.out _ (Below.refl _ _)).mono ?_
          rintro e v1 ⟨rfl, hc1⟩
          go_wp2_with fail
          refine (HSb.out _ hc1).mono ?_
          rintro e v2 ⟨rfl, hc2⟩
          have hwv := below2 hwr (below2 hc1 hc2)
          go_wp2_with fail
          refine (HAw.out _ hwv).mono ?_
          rintro e w9 ⟨rfl, hb9⟩
          go_wp2
          go_ret
          exact ⟨by simp, below2 hwv hb9⟩
    · obtain ⟨⟨F1, F2⟩, hFF⟩ : ∃ F, F = checkS a ts b c := ⟨_, rfl⟩
      rw [← hFF] at HC hck
      have hor : F1 ≠ 0 ∨ (F1 = 0 ∧ F2 ≠ 0) := by
        by_cases h1 : F1 = 0
        · right; exact ⟨h1, fun h2 => hck (by rw [h1, h2])⟩
        · exact .inl h1
      clear hfew hfw hts h150 h100 hck hFF hr hl hopen hn htl hF hW
      rcases hor with h1 | ⟨rfl, h1⟩
      · go_enter Tryd.func5, Tryd.ntmps5
        go_wp2_with fail
        refine (HFew.out _ hb0).mono ?_
        rintro e w1 ⟨rfl, hb1⟩
        have hb01 := below2 hb0 hb1
        have hT1 : w1.heap[w.heap.size]? = some (cfgO a (.slice A tl cc) b c) := (hb1.block _ (by simp)).trans (heap_alloc_new w _)
        obtain ⟨q0, q1, q2, q3, qf, ql⟩ := row4 hT1
        go_wp2_with fail
        refine (HC.out _ hb01).mono ?_
        rintro e w2 ⟨rfl, hb2⟩
        have hb02 := below2 hb01 hb2
        go_wp2_with fail
        refine (HAw.out _ hb02).mono ?_
        rintro e w9 ⟨rfl, hb9⟩
        go_wp2
        go_ret
        exact ⟨by simp, below2 hb02 hb9⟩
      · go_enter Tryd.func5, Tryd.ntmps5
        go_wp2_with fail
        refine (HFew.out _ hb0).mono ?_
        rintro e w1 ⟨rfl, hb1⟩
        have hb01 := below2 hb0 hb1
        have hT1 : w1.heap[w.heap.size]? = some (cfgO a (.slice A tl cc) b c) := (hb1.block _ (by simp)).trans (heap_alloc_new w _)
        obtain ⟨q0, q1, q2, q3, qf, ql⟩ := row4 hT1
        go_wp2_with fail
        refine (HC.out _ hb01).mono ?_
        rintro e w2 ⟨rfl, hb2⟩
        have hb02 := below2 hb01 hb2
        go_wp2_with fail
        refine (HAw.out _ hb02).mono ?_
        rintro e w9 ⟨rfl, hb9⟩
        go_wp2
        go_ret
        exact ⟨by simp, below2 hb02 hb9⟩
  · have hff : (fewS ts && fewA l) = false := by simpa using hfew
    rw [hff] at HFew
    clear hfew hff hr hl hopen hn htl hF hW
    go_enter Tryd.func5, Tryd.ntmps5
    go_wp2_with fail
    refine (HFew.out _ hb0).mono ?_
    rintro e w1 ⟨rfl, hb1⟩
    have hb01 := below2 hb0 hb1
    have hT1 : w1.heap[w.heap.size]? = some (cfgO a (.slice A tl cc) b c) := (hb1.block _ (by simp)).trans (heap_alloc_new w _)
    obtain ⟨q0, q1, q2, q3, qf, ql⟩ := row4 hT1
    go_wp2_with fail
    refine (HAw.out _ hb01).mono ?_
    rintro e w9 ⟨rfl, hb9⟩
    go_wp2
    go_ret
    exact ⟨by simp, below2 hb01 hb9⟩

end Go.Proofs.YtbbcajnbdebmfaaDoor
