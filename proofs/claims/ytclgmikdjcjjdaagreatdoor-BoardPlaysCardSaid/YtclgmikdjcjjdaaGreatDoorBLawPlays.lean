/-
  The walk of the law Plays. Conditions: a config and acts in memory, that are not too great; the calls' fields and the ways between modes, in memory.
-/
import Derived.Test.YtclgmikdjcjjdaaGreatDoorBRefL1
import Derived.Test.YtclgmikdjcjjdaaGreatDoorBWake
namespace Go.Proofs.YtclgmikdjcjjdaaGreatDoor
open Go.RowKit

theorem advS_tp (S : Bd) (t : Nat) (c : Cl) : (advS S t c).1.tp = S.tp := by
  unfold advS
  repeat' split
  all_goals rfl
theorem pubS_tp (S : Bd) (t : Nat) (c : Cl) : (pubS S t c).1.tp = S.tp := by
  unfold pubS
  repeat' split
  all_goals rfl
theorem subS_tp (S : Bd) (t : Nat) (c : Cl) : (subS S t c).1.tp = S.tp := by
  unfold subS
  repeat' split
  all_goals rfl
theorem pollS_tp (S : Bd) (t : Nat) : (pollS S t).1.tp = S.tp := by
  unfold pollS
  dsimp only
  repeat' split
  all_goals rfl
theorem turnS_tp (S : Bd) (x : Rg × Int) : (turnS S x).1.tp = S.tp := by
  unfold turnS
  split <;> rfl

theorem doS_tp (S : Bd) (task : Int) (c : Cl) : (doS S task c).1.tp = S.tp := by
  unfold doS
  split
  · rfl
  · split
    · rfl
    · unfold kindS
      repeat' split
      all_goals first | rfl | exact advS_tp _ _ _ | exact pubS_tp _ _ _ | exact subS_tp _ _ _ | exact pollS_tp _ _ | exact turnS_tp _ _

/-- What the law asks of a task's subscriptions. -/
theorem Pair.both {w0 w : World} {k : Nat} {m : Mem} {S : Bd} {base : Nat} {lab : Nat → Option Lb} {mr : RMem} {AL : Nat → List (List Int)} (h : Pair w0 w k m S base lab mr AL) (hk : k + 1 ≤ 1000000) (task : Int) :
    ∃ V, (∀ x, Below w.heap.size w x → Calls Tryz.prog 14 #[.pointer (some ⟨mr.bb, 0, none⟩), .int .i64 task] x fun e w' => e = .returned V ∧ Below x.heap.size x w') ∧
      (∀ x lv, Below w.heap.size w x → Rd x lv 6 (S.subsAt task).length (flatSb (S.subsAt task)) → Calls Tryz.prog 12 #[.pointer (some ⟨m.bb, 0, none⟩), lv, V] x fun e w' => e = .returned (.bool true) ∧ Below x.heap.size x w') := by
  by_cases hin : 0 ≤ task ∧ task < S.tasks
  · obtain ⟨t, rfl⟩ : ∃ t : Nat, task = t := ⟨task.toNat, by omega⟩
    have ht : t < S.tasks := by omega
    have hs : S.subsAt (t : Int) = S.subs.getD t [] := by unfold Bd.subsAt; rw [if_pos hin, Int.toNat_natCast]
    rw [hs]
    exact ⟨mr.subsT t, fun x hx => rsubs_in (h.on hx).ref ht h.play.is.inv.tasks.2, fun x lv hx hl => same_any (h.on hx) hk ht lv hl⟩
  · have hs : S.subsAt task = [] := by unfold Bd.subsAt; rw [if_neg hin]
    rw [hs]
    exact ⟨nilS, fun x hx => rsubs_out (h.on hx).ref (show task < 0 ∨ (S.tasks : Int) ≤ task by omega), fun x lv hx hl => same_nil _ _ x hl⟩

/-- What reading a record needs. -/
theorem IsRef.recAt {base : Nat} {w : World} {lab : Nat → Option Lb} {m : RMem} {X : Rb} (h : IsRef base w lab m X) {t g : Nat} (ht : t < X.tp.length) (hg : g < (X.al t).length) :
    ∃ br orr cr bt ot ct V, w.cell? ⟨m.bb, 4, none⟩ = some (.slice (some ⟨br, orr, none⟩) X.tp.length cr) ∧ w.cell? ⟨br, orr + t, none⟩ = some (.slice (some ⟨bt, ot, none⟩) (X.al t).length ct) ∧ w.cell? ⟨bt, ot + g, none⟩ = some V ∧
      Rd w V 1 ((X.al t).getD g []).length (u64V ((X.al t).getD g [])) ∧ m.bb < w.heap.size ∧ br < w.heap.size ∧ bt < w.heap.size ∧ X.tp.length ≤ cr ∧ cr ≤ maxLen ∧ (X.al t).length ≤ ct ∧ ct ≤ maxLen := by
  obtain ⟨t0, t1, t2, t3, t4, t5, t6, t7, t8, t9, t10, t11, tf, tl⟩ := row12 h.blk
  obtain ⟨br, orr, cr, hvr, hra, hrb, hrl, hrc⟩ := h.rdRecs.open_ (by omega)
  have qr := hrc _ _ (range_at ht m.recT)
  obtain ⟨bt, ot, ct, hvt, hta, htb, htl, htc⟩ := (h.rdRec ht).open_ (by omega)
  have qt := htc _ _ (range_at hg (m.word t))
  rw [hvr] at t4
  rw [hvt] at qr
  exact ⟨br, orr, cr, bt, ot, ct, _, t4, qr, qt, h.rdWord ht hg, tl, hrl, htl, hra, hrb, hta, htb⟩

theorem u64_id {z : Int} (h0 : 0 ≤ z) (h1 : z ≤ 1000000) : IntKind.u64.wrap z = z := by rw [IntKind.wrap_u64]; omega
set_option maxRecDepth 1000000 in
set_option maxHeartbeats 12800000 in
theorem lawplays_any (a b c : Int) (ts : List Tp) (u lv : Value) (l : List Ac) (w : World) (hr : Rd w u 3 ts.length (flatT ts)) (hl : ActsAt w lv l) (hF : FieldsAt w) (hW : WaysAt w) :
    Calls Tryz.prog 3 #[cfgV a u b c, lv] w fun e w' => e = .returned (.bool true) ∧ Below w.heap.size w w' := by
  obtain ⟨A, cc, rfl, -⟩ := id hr.shape
  have hl0 := hl
  obtain ⟨LA, lc, rfl, hl1, hl2, hopen⟩ := hl0
  obtain ⟨n, hn⟩ : ∃ n, n = l.length := ⟨_, rfl⟩
  obtain ⟨tl, htl⟩ : ∃ tl, tl = ts.length := ⟨_, rfl⟩
  have HFew := hide (fun w' (hb : Below w.heap.size w w') => few18_any a b c ts (.slice A ts.length cc) (.slice LA l.length lc) l w' (hr.below hb) (hl.below hb))
  have HAw := hide (fun w' (hb : Below w.heap.size w w') => awake_any w' (hF.below hb) (hW.below hb))
  rw [← hn] at HFew hopen hl1 ⊢
  rw [← htl] at HFew ⊢
  have hb0 := below_new w (cfgO a (.slice A tl cc) b c)
  have Hopen := hide hopen
  have Hn := hide hn
  have HF := hide hF
  have HW := hide hW
  by_cases hfew : (fewS ts && fewA l) = true
  · have hfw := hfew
    rw [Bool.and_eq_true] at hfw
    have hts := (few_true hfw.1).2
    obtain ⟨h150, h100⟩ := fewA_true hfw.2
    rw [hfew] at HFew
    by_cases hck : checkS a ts b c = (0, 0)
    · obtain ⟨k1, k2, k3⟩ := check_ok hck
      obtain ⟨tn, rfl⟩ : ∃ tn : Nat, a = tn := ⟨a.toNat, by omega⟩
      have HNew := hide (fun w' (hb : Below w.heap.size w w') => new_any tn b c ts (.slice A ts.length cc) w' (hr.below hb) (fun t ht => by have := hts t ht; omega) hck)
      have hvb : ∀ q, (Value.slice A ts.length cc).ownBlock = some q → q < w.heap.size := fun q hq => by
        obtain ⟨bt, ot, c', hv, -, -, hbt, -⟩ := hr.open_ (by omega)
        rw [hv] at hq
        cases hq
        exact hbt
      have HRNew := hide (fun w' (hb : Below w.heap.size w w') => rnew_any tn b c ts (.slice A ts.length cc) w' (hr.below hb) (fun q hq => Nat.lt_of_lt_of_le (hvb q hq) hb.size) (fun t ht => by have := hts t ht; omega) hck)
      rw [← htl] at HNew HRNew
      have H100 := hide h100
      have Hvb := hide hvb
      have Hck := hide hck
      have K2 := hide k2
      have K3 := hide k3
      have Hr := hide hr
      have Htl := hide htl
      have h150' : n ≤ 150 := by omega
      clear hfew hfw hts h150 h100 hck hr hl hopen hn htl hF hW hvb k1 k2 k3
      go_enter Tryz.func3, Tryz.ntmps3
      go_wp2_with fail
      refine (HFew.out _ hb0).mono ?_
      rintro e w1 ⟨rfl, hb1⟩
      have hb01 := below2 hb0 hb1
      have hT1 : w1.heap[w.heap.size]? = some (cfgO tn (.slice A tl cc) b c) := (hb1.block _ (by simp)).trans (heap_alloc_new w _)
      obtain ⟨q0, q1, q2, q3, qf, ql⟩ := row4 hT1
      go_wp2_with fail
      refine (HNew.out _ hb01).mono ?_
      rintro e w2 ⟨m0, rfl, hIs, hb2, hown⟩
      have hb02 := below2 hb01 hb2
      have hT2 : w2.heap[w.heap.size]? = some (cfgO tn (.slice A tl cc) b c) := (hb2.block _ (block_lt hT1)).trans hT1
      clear q0 q1 q2 q3 qf ql
      obtain ⟨q0, q1, q2, q3, qf, ql⟩ := row4 hT2
      go_wp2_with fail
      refine (HRNew.out _ hb02).mono ?_
      rintro e w3 ⟨mr0, lab0, rfl, hIR, hb3, htv⟩
      have hb23 := below2 hb2 hb3
      have P0 : Pair w1 w3 0 m0 (newS tn ts b c) (w2.heap.size + 1) lab0 mr0 (alz ts) := by
        refine ⟨⟨hIs.below hb3, hb23, fun i hi => hown i (.inl hi)⟩, hIR, rinv_new Hck.out, by have := hb2.size; omega, fun i hi => ?_, fun q hq => ?_⟩
        · cases hl : lab0 i with
          | none => rfl
          | some L =>
            have h8 := (hIR.rows.lt i L hl).1
            have h9 := hIs.lt i hi
            omega
        · rw [htv, Htl.out] at hq
          have := Hvb.out q hq
          have := hb01.size
          omega
      have hT3 : w3.heap[w.heap.size]? = some (cfgO tn (.slice A tl cc) b c) := (hb3.block _ (block_lt hT2)).trans hT2
      obtain ⟨base, hbase⟩ : ∃ x, x = w2.heap.size + 1 := ⟨_, rfl⟩
      rw [← hbase] at P0
      obtain ⟨B, hB⟩ : ∃ B, B = m0.bb := ⟨_, rfl⟩
      obtain ⟨C, hC⟩ : ∃ C, C = mr0.bb := ⟨_, rfl⟩
      have HP0 := hide (show Pair w1 w3 0 m0 (newS tn ts b c) base lab0 mr0 (alz ts) ∧ m0.bb = B ∧ mr0.bb = C ∧ (newS tn ts b c).tp = ts from ⟨P0, hB.symm, hC.symm, rfl⟩)
      rw [← hB, ← hC]
      have Hb01 := hide hb01
      have HT1 := hide hT1
      clear hB hC P0 hIR htv hIs hb3 hb23 hown q0 q1 q2 q3 qf ql hT1 hT2 hT3 hb01 hb02 hb0 hb1 hb2 HNew HRNew HFew hbase Hck Hvb
      go_wp2_with fail
      go_loopw [9] (fun i wr => ∃ (k : Nat) (m : Mem) (S : Bd) (lab : Nat → Option Lb) (mr : RMem) (AL : Nat → List (List Int)), k ≤ n ∧ i = .int .i64 k ∧ Hid (Pair w1 wr k m S base lab mr AL ∧ m.bb = B ∧ mr.bb = C ∧ S.tp = ts)) (fun i _ => n - (intOf i).toNat)
      case atStart => exact ⟨0, m0, _, lab0, mr0, alz ts, Nat.zero_le _, rfl, HP0⟩
      case round =>
        clear HP0
        obtain ⟨k, m, S, lab, mr, AL, hk, rfl, HP⟩ := hrel
        by_cases hlt : k < n
        · obtain ⟨b1, o1, rfl, hblt, hat⟩ := Hopen.out (by omega)
          obtain ⟨⟨task, ⟨kd, tp, sb, cp, rk, so, md, fl, fr, set, ws⟩, sv, wv⟩, hx⟩ : ∃ x, l[k]? = some x := ⟨l[k]'(by have := Hn.out; omega), by simp⟩
          have hA := (hat k _ hx).below Hb01.out
          obtain ⟨hs100, hw100⟩ := H100.out _ (List.mem_of_getElem? hx)
          simp only at hs100 hw100
          have hkk : k + 1 ≤ 1000000 := by omega
          obtain ⟨X, hX⟩ : ∃ X, X = doS S task ⟨kd, tp, sb, cp, rk, so, md, fl, fr, set, ws⟩ := ⟨_, rfl⟩
          have HD := hide (fun x (hb : Below wr.heap.size wr x) => (HP.out.1.play.on hb).acts (HF.out.below Hb01.out) (HW.out.below Hb01.out) hkk hA hs100 hw100)
          simp only at HD
          rw [← hX, HP.out.2.1] at HD
          have HRD := hide (fun (x : World) (m2 : Mem) (hH : Half w1 x (k + 1) m2 S X.1 base lab mr AL) => hH.do_ HP.out.1.play.is.inv hkk HP.out.1.inv task ⟨kd, tp, sb, cp, rk, so, md, fl, fr, set, ws⟩ (by rw [hX]) sv wv (hA.set.below hH.play.below) hs100 (hA.words.below hH.play.below) hw100)
          rw [← hX, HP.out.2.2.1] at HRD
          have htp : X.1.tp = S.tp := by rw [hX]; exact doS_tp _ _ _
          have HtpX := hide (htp.trans HP.out.2.2.2)
          have HK : ∀ x, Below w1.heap.size w1 x → x.cell? ⟨b1, o1 + k * 12, none⟩ = some (.int .i64 task) ∧ x.cell? ⟨b1, o1 + k * 12 + 1, none⟩ = some (.int .i64 kd) ∧ x.cell? ⟨b1, o1 + k * 12 + 2, none⟩ = some (.int .i64 tp) ∧ x.cell? ⟨b1, o1 + k * 12 + 3, none⟩ = some (.int .i64 sb) ∧ x.cell? ⟨b1, o1 + k * 12 + 4, none⟩ = some (.int .i64 cp) ∧ x.cell? ⟨b1, o1 + k * 12 + 5, none⟩ = some (.int .i64 rk) ∧ x.cell? ⟨b1, o1 + k * 12 + 6, none⟩ = some (.int .i64 so) ∧ x.cell? ⟨b1, o1 + k * 12 + 7, none⟩ = some (.int .i64 md) ∧ x.cell? ⟨b1, o1 + k * 12 + 8, none⟩ = some (.int .i64 fl) ∧ x.cell? ⟨b1, o1 + k * 12 + 9, none⟩ = some (.bool fr) ∧ x.cell? ⟨b1, o1 + k * 12 + 10, none⟩ = some (sv) ∧ x.cell? ⟨b1, o1 + k * 12 + 11, none⟩ = some (wv) ∧ Below w1.heap.size w1 x := fun x hb => by
            have h := hA.below hb
            exact ⟨h.c0, h.c1, h.c2, h.c3, h.c4, h.c5, h.c6, h.c7, h.c8, h.c9, h.c10, h.c11, hb⟩
          have hlo := HP.out.1.play.below
          have hb1 : b1 < wr.heap.size := by have := Hb01.out.size; have := hlo.size; omega
          have HK1 := HK _ hlo.drew
          have hB0 : Below wr.heap.size wr wr.drew := (Below.refl _ _).drew
          have HHf := fun (v2 : World) (m2 : Mem) (P2 : Play w1 v2 (k + 1) m2 X.1) (hT : Turns wr.drew v2 m m2) => (HP.out.1.on hB0).half P2 hT
          have hfree : ∀ q, wr.heap.size ≤ q → lab q = none := fun q hq => HP.out.1.ref.fresh hq
          have hb1x : ∀ x, Below w1.heap.size w1 x → b1 < x.heap.size := fun x hb => by have := Hb01.out.size; have := hb.size; omega
          have hA0 := hA.c0
          simp only at hA0
          clear hX hat hx hA hs100 hw100 htp hlo
          go_wp2_with fail
          go_region_held3 (fun x => x.cell? ⟨b1, o1 + k * 12, none⟩ = some (.int .i64 task) ∧ x.cell? ⟨b1, o1 + k * 12 + 1, none⟩ = some (.int .i64 kd) ∧ x.cell? ⟨b1, o1 + k * 12 + 2, none⟩ = some (.int .i64 tp) ∧ x.cell? ⟨b1, o1 + k * 12 + 3, none⟩ = some (.int .i64 sb) ∧ x.cell? ⟨b1, o1 + k * 12 + 4, none⟩ = some (.int .i64 cp) ∧ x.cell? ⟨b1, o1 + k * 12 + 5, none⟩ = some (.int .i64 rk) ∧ x.cell? ⟨b1, o1 + k * 12 + 6, none⟩ = some (.int .i64 so) ∧ x.cell? ⟨b1, o1 + k * 12 + 7, none⟩ = some (.int .i64 md) ∧ x.cell? ⟨b1, o1 + k * 12 + 8, none⟩ = some (.int .i64 fl) ∧ x.cell? ⟨b1, o1 + k * 12 + 9, none⟩ = some (.bool fr) ∧ x.cell? ⟨b1, o1 + k * 12 + 10, none⟩ = some (sv) ∧ x.cell? ⟨b1, o1 + k * 12 + 11, none⟩ = some (wv) ∧ Below w1.heap.size w1 x)
            (first | with_reducible assumption | with_reducible exact HK1 | (refine HK _ ?_; with_reducible assumption))
            (first | (go_at_call 9; refine (HD.out _ hB0).mono ?_; rintro e v2 ⟨m2, gv, wv2, rfl, P2, hT2, hgv, hwv, -⟩; obtain ⟨Ag, kg, rfl, -⟩ := (Rd.of_own hgv).shape; obtain ⟨Aw, kw, rfl, -⟩ := (Rd.of_own hwv).shape; have hwA := P2.below; have hm2 : m2.bb = B := hT2.bb.trans HP.out.2.1; have hHf := HHf v2 m2 P2 hT2; have hl1 := fun q hq => hfree q ((hgv.lt q hq).1); have hl2 := fun q hq => hfree q ((hwv.lt q hq).1)) | (go_at_call 10; refine (HRD.out v2 m2 hHf).mono ?_; rintro e v3 ⟨mr3, lab3, AL3, gv3, wv3, rfl, P3, hbb3, hTr, hgv3, hwv3⟩; have RG := rd_rturns hgv hl1 hTr; have RW := rd_rturns hwv hl2 hTr; obtain ⟨Ag3, kg3, rfl, -⟩ := hgv3.shape; obtain ⟨Aw3, kw3, rfl, -⟩ := hwv3.shape; have hwB := P3.play.below) | (go_at_call 8; refine (equal_any X.2 _ _ _ _ _ RG RW hgv3 hwv3).mono ?_; rintro e v4 ⟨rfl, hb4⟩; have hwC := (P3.on hb4).play.below))
          have P4 := P3.on hb4
          obtain ⟨V, hRS, hSa⟩ := P4.both (by omega) task
          rw [hbb3] at hRS
          rw [hm2] at hSa
          have HRS := hide hRS
          have HSa := hide hSa
          have HSt := hide (fun x (hb : Below v4.heap.size v4 x) => state_any x (P4.on hb).play.is)
          have HSu := hide (fun x (hb : Below v4.heap.size v4 x) => subs_any task x (P4.on hb).play.is)
          rw [hm2] at HSt HSu
          have hblk := P4.ref.blk
          rw [hbb3] at hblk
          obtain ⟨q0, q1, q2, q3, q4, q5, q6, q7, q8, q9, q10, q11, qf, ql⟩ := row12 hblk
          change v4.cell? ⟨C, 7, none⟩ = some (.int .i64 X.1.st.mode) at q7
          change v4.cell? ⟨C, 8, none⟩ = some (.int .i64 X.1.st.source) at q8
          change v4.cell? ⟨C, 9, none⟩ = some (.bool X.1.st.hold) at q9
          change v4.cell? ⟨C, 10, none⟩ = some (.int .i64 X.1.st.flags) at q10
          change v4.cell? ⟨C, 11, none⟩ = some (.int .u64 (X.1.st.epoch : Nat)) at q11
          have b0 := (hwC.cell (p := ⟨b1, o1 + k * 12, none⟩) (show b1 < w1.heap.size by have := Hb01.out.size; omega)).trans hA0
          have hb1v := hb1x v4 hwC
          have HPF := hide (fun x (hb : Below v4.heap.size v4 x) => show Pair w1 x (k + 1) m2 X.1 base lab3 mr3 AL3 ∧ m2.bb = B ∧ mr3.bb = C ∧ X.1.tp = ts from ⟨P4.on hb, hm2, hbb3, HtpX.out⟩)
          clear P4 hRS hSa hblk q0 q1 q2 q3 q4 q5 q6 qf P2 hT2 hgv hwv hwA hHf hl1 hl2 P3 hTr RG RW hgv3 hwv3 hwB hb4 hwC HK HK1 hB0 HHf hfree hb1x hA0 HD HRD
          obtain ⟨⟨s1, s2, s3, s4, s5⟩, hst⟩ : ∃ r, r = X.1.st := ⟨_, rfl⟩
          rw [← hst] at q7 q8 q9 q10 q11 HSt
          simp only at q7 q8 q9 q10 q11
          clear hst
          have HK : ∀ x, Below v4.heap.size v4 x → x.cell? ⟨b1, o1 + k * 12, none⟩ = some (.int .i64 task) ∧ x.cell? ⟨C, 7, none⟩ = some (.int .i64 s1) ∧ x.cell? ⟨C, 8, none⟩ = some (.int .i64 s2) ∧ x.cell? ⟨C, 9, none⟩ = some (.bool s3) ∧ x.cell? ⟨C, 10, none⟩ = some (.int .i64 s4) ∧ x.cell? ⟨C, 11, none⟩ = some (.int .u64 (s5 : Nat)) ∧ Below v4.heap.size v4 x := fun x hB => ⟨(hB.cell (p := ⟨b1, o1 + k * 12, none⟩) hb1v).trans b0, (hB.cell (p := ⟨C, 7, none⟩) ql).trans q7, (hB.cell (p := ⟨C, 8, none⟩) ql).trans q8, (hB.cell (p := ⟨C, 9, none⟩) ql).trans q9, (hB.cell (p := ⟨C, 10, none⟩) ql).trans q10, (hB.cell (p := ⟨C, 11, none⟩) ql).trans q11, hB⟩
          have hd4 : Below v4.heap.size v4 v4.drew := (Below.refl _ _).drew
          have HK1 := HK _ hd4
          go_wp2_with fail
          go_region_held3 (fun x => x.cell? ⟨b1, o1 + k * 12, none⟩ = some (.int .i64 task) ∧ x.cell? ⟨C, 7, none⟩ = some (.int .i64 s1) ∧ x.cell? ⟨C, 8, none⟩ = some (.int .i64 s2) ∧ x.cell? ⟨C, 9, none⟩ = some (.bool s3) ∧ x.cell? ⟨C, 10, none⟩ = some (.int .i64 s4) ∧ x.cell? ⟨C, 11, none⟩ = some (.int .u64 (s5 : Nat)) ∧ Below v4.heap.size v4 x)
            (first | with_reducible assumption | with_reducible exact HK1 | (refine HK _ ?_; with_reducible assumption))
            (first | (go_at_call 11; refine (HSt.out _ hd4).mono ?_; rintro e v5 ⟨rfl, hb5⟩; have hd5 := hd4.trans (hb5.mono hd4.size)) | (go_at_call 13; refine (HSu.out _ hd5).mono ?_; rintro e v6 ⟨sv6, rfl, hown6, hb6⟩; have hd6 := hd5.trans (hb6.mono hd5.size)) | (go_at_call 14; refine (HRS.out _ hd6).mono ?_; rintro e v7 ⟨rfl, hb7⟩; have hd7 := hd6.trans (hb7.mono hd6.size); have hrd7 := (Rd.of_own hown6).below hb7) | (go_at_call 12; refine (HSa.out _ _ hd7 hrd7).mono ?_; rintro e v8 ⟨rfl, hb8⟩; have hd8 := hd7.trans (hb8.mono hd7.size)))
          go_wp2
          go_roundw
          case rel => exact ⟨k + 1, m2, X.1, lab3, mr3, AL3, by omega, by go_num, hide (HPF.out _ hd8)⟩
          case measure => simp [intOf]; omega
        · have hkn : k = n := by omega
          subst hkn
          obtain ⟨P, hmb, hmc, htp⟩ := HP.out
          have hcfg := (P.play.below.block w.heap.size (block_lt HT1.out)).trans HT1.out
          have hinv := P.play.is.inv
          have hgl := hinv.glen
          have hgk := fun t => P.play.is.gen_le t
          have HP2 := hide P
          have Hmb := hide hmb
          have Hmc := hide hmc
          have Hcfg := hide hcfg
          have Hinv := hide hinv
          have Htp := hide htp
          have htl64 : tl ≤ 64 := by have := hinv.tlen; rw [htp, ← Htl.out] at this; omega
          have htg : S.gens.length = tl := by rw [hgl, htp, Htl.out]
          have hkk : k ≤ 150 := by omega
          have Htg := hide htg
          have Hgk := hide hgk
          obtain ⟨p0, p1, p2, p3, pf, pl⟩ := row4 hcfg
          clear P hmb hmc htp hcfg hinv hgl hgk htg HP hlt
          go_wp2_with fail
          clear p0 p1 p2 p3 pf pl
          generalize wr = y0 at *
          have hlow := HP2.out.play.below.size
          have hlow1 := Hb01.out.size
          go_loopw [10] (fun i wx => ∃ t : Nat, t ≤ tl ∧ i = .int .i64 t ∧ Hid (Below y0.heap.size y0 wx)) (fun i _ => tl - (intOf i).toNat)
          case atStart => exact ⟨0, Nat.zero_le _, rfl, hide (Below.refl _ _)⟩
          case round =>
            obtain ⟨t, ht, rfl, HB⟩ := hrel
            have hcf := (HB.out.block _ (by have := HT1.out; have := block_lt this; omega)).trans Hcfg.out
            obtain ⟨q0, q1, q2, q3, qf, ql⟩ := row4 hcf
            by_cases hlt : t < tl
            · have htg : t < S.gens.length := by rw [Htg.out]; exact hlt
              have hal : ((rbOf S AL).al t).length = S.gen t + 1 := HP2.out.inv.recs.len t htg
              have htp : t < (rbOf S AL).tp.length := by show t < S.tp.length; rw [Htp.out, ← Htl.out]; exact hlt
              have hNk : S.gen t ≤ 150 := Nat.le_trans (Hgk.out t) hkk
              have HGr := hide (fun (x : World) (hb : Below y0.heap.size y0 x) => rgen_any (HP2.out.on hb).ref htp hal (by omega))
              have HGb := hide (fun (x : World) (hb : Below y0.heap.size y0 x) => gen_any (t : Int) x (HP2.out.on hb).play.is)
              have hga : S.genAt (t : Int) = S.gen t := by
                have hh : S.has (t : Int) = true := by unfold Bd.has; simp [htg]
                simp [Bd.genAt, hh]
              rw [hga, Hmb.out] at HGb
              rw [Hmc.out] at HGr
              have HRS := hide (fun (x : World) (hb : Below y0.heap.size y0 x) (g : Nat) (hg : g ≤ 2000000) (ws : List Int) (hws : S.recs t g = some ws) => record_some t g x (HP2.out.on hb).play.is (by omega) hg hws)
              have HRN := hide (fun (x : World) (hb : Below y0.heap.size y0 x) (g : Nat) (hg : g ≤ 2000000) (hws : S.recs t g = none) => record_no t g x (HP2.out.on hb).play.is (by omega) hg hws)
              rw [Hmb.out] at HRS HRN
              have HAt := hide (fun (x : World) (hb : Below y0.heap.size y0 x) (g : Nat) (hg : g < ((rbOf S AL).al t).length) => (HP2.out.on hb).ref.recAt htp hg)
              rw [Hmc.out, hal] at HAt
              have hts : t < ts.length := by rw [← Htl.out]; exact hlt
              obtain ⟨⟨nm, wd, dp⟩, hp⟩ : ∃ p, p = ts[t] := ⟨_, rfl⟩
              have hdep : S.depth t = dp := by unfold Bd.depth; rw [Htp.out, List.getElem?_eq_getElem hts, ← hp]
              have hd16 := depth_in Hinv.out htg
              rw [hdep] at hd16
              obtain ⟨dn, rfl⟩ : ∃ dn : Nat, dp = dn := ⟨dp.toNat, by omega⟩
              have hrc := fun g => HP2.out.inv.recs.rec_ t g htg
              rw [hdep] at hrc
              have hrlen := HP2.out.inv.recs.len t htg
              have HTD := hide (fun (x : World) (hb : Below w.heap.size w x) => show ∃ bt ot, (Value.slice A tl cc) = .slice (some ⟨bt, ot, none⟩) tl cc ∧ bt < x.heap.size ∧ tl ≤ cc ∧ cc ≤ maxLen ∧ x.cell? ⟨bt, ot + t * 3 + 2, none⟩ = some (.int .i64 dn) by
                have hRx := Hr.out.below hb
                rw [← Htl.out] at hRx
                obtain ⟨bt, ot, c', hv, h1, h2, hbt, hct⟩ := hRx.open_ (by omega)
                obtain ⟨-, -, f2⟩ := flatT_at ts t hts
                rw [← hp] at f2
                have d2 := hct _ _ f2
                rw [← Nat.add_assoc] at d2
                cases hv
                exact ⟨bt, ot, rfl, hbt, h1, h2, d2⟩)
              obtain ⟨N, hN⟩ : ∃ N, N = S.gen t := ⟨_, rfl⟩
              rw [← hN] at HGr HGb HAt hrc hNk hrlen
              have Hrc := hide hrc
              have Hrlen := hide hrlen
              have hlowB := HP2.out.play.below
              have hbw0 := Hb01.out.trans (hlowB.mono hlow1)
              have Hbw0 := hide hbw0
              clear hcf htg hal htp hga hts hp hdep hN hrc hrlen hlowB hbw0
              go_wp2_with fail
              refine (HGr.out _ HB.out).mono ?_
              rintro e x1 ⟨rfl, hx1⟩
              have HB1 := hide (HB.out.trans (hx1.mono HB.out.size))
              clear hx1
              go_wp2_with fail
              refine (HGb.out x1 HB1.out).mono ?_
              rintro e x2 ⟨rfl, rfl⟩
              go_wp2_with fail
              clear q0 q1 q2 q3 qf ql
              generalize x2 = y1 at *
              go_loopw [12] (fun i wq => ∃ g : Nat, g ≤ N + 2 ∧ i = .int .u64 g ∧ Hid (Below y1.heap.size y1 wq)) (fun i _ => N + 2 - (intOf i).toNat)
              case atStart => exact ⟨0, Nat.zero_le _, rfl, hide (Below.refl _ _)⟩
              case round =>
                obtain ⟨g, hg, rfl, HQ⟩ := hrel
                have HBQ := hide (HB1.out.trans (HQ.out.mono HB1.out.size))
                have hyw := HT1.out
                have hwl1 := block_lt hyw
                have hlw0 : w.heap.size < y0.heap.size := by omega
                have HCF := hide (fun (x : World) (hb : Below y0.heap.size y0 x) => (hb.block w.heap.size hlw0).trans Hcfg.out)
                clear hyw
                by_cases hle : g ≤ N + 1
                · have hrcg := Hrc.out g
                  cases hrec : S.recs t g with
                  | some ws =>
                    rw [hrec] at hrcg
                    have hkept : g ≤ N ∧ ((N - g : Nat) : Int) < dn := by
                      by_cases hc : g ≤ N ∧ ((N - g : Nat) : Int) < dn
                      · exact hc
                      · rw [if_neg hc] at hrcg; cases hrcg
                    rw [if_pos hkept] at hrcg
                    obtain ⟨hk1, hk2⟩ := hkept
                    have hget : ((rbOf S AL).al t).getD g [] = ws := by
                      show (AL t).getD g [] = ws
                      rw [List.getD_eq_getElem?_getD, ← hrcg]
                      rfl
                    have HREC := hide (HRS.out wr HBQ.out g (by omega) ws hrec)
                    have HATg := hide (fun (x : World) (hb : Below y0.heap.size y0 x) => HAt.out x hb g (by omega))
                    rw [hget] at HATg
                    obtain ⟨d, hd⟩ : ∃ d, d = N - g := ⟨_, rfl⟩
                    rw [← hd] at hk2
                    have hgN : (N : Int) - (g : Int) = d := by omega
                    clear hd hrcg hrec hget
                    have dec0 : decide ((g : Int) ≤ (N : Int) + 1) = true := by simp; omega
                    have dec1 : decide (g ≤ N) = true := by simpa using hk1
                    have dec2 : decide (d < dn) = true := by simp; omega
                    have hdN : d ≤ N := by omega
                    have hw1 : IntKind.u64.wrap ((N : Int) + 1) = (N : Int) + 1 := u64_id (by omega) (by omega)
                    have hw3 : IntKind.u64.wrap (dn : Int) = (dn : Int) := u64_id (by omega) (by omega)
                    have hw2 : IntKind.u64.wrap ((N : Int) - (g : Int)) = (d : Int) := by rw [hgN]; exact u64_id (by omega) (by omega)
                    go_wp2_with fail
                    refine (HREC.out).mono ?_
                    rintro e x3 ⟨v3, rfl, hrd3, hx3⟩
                    obtain ⟨A3, c3, rfl, -⟩ := hrd3.shape
                    have HQ3 := hide (HQ.out.trans (hx3.mono HQ.out.size))
                    have HB3 := hide (HBQ.out.trans (hx3.mono HBQ.out.size))
                    obtain ⟨q0, q1, q2, q3, qf, ql⟩ := row4 (HCF.out x3 HB3.out)
                    obtain ⟨bt, ot, hv, hbt, htc, htm, d2⟩ := HTD.out x3 (Hbw0.out.trans (HB3.out.mono (by omega)))
                    cases hv
                    clear hx3
                    obtain ⟨br, orr, cr, bt', ot', ct, V, y4, qr, qt, hrdV, yb1, yb2, yb3, hcr, hcr2, hct, hct2⟩ := HATg.out x3 HB3.out
                    rw [show (rbOf S AL).tp.length = tl by show S.tp.length = tl; rw [Htp.out, Htl.out]] at y4 hcr
                    obtain ⟨n1, hn1⟩ : ∃ n1, n1 = N + 1 := ⟨_, rfl⟩
                    rw [← hn1] at qr hct
                    have hgn1 : g < n1 := by omega
                    have hn163 : n1 ≤ 1000 := by omega
                    obtain ⟨Av, cv, rfl, -⟩ := hrdV.shape
                    have HW2 := hide (words_any (.slice A3 ws.length c3) (.slice Av ws.length cv) ws ws x3 hrd3 hrdV)
                    rw [decide_eq_true rfl] at HW2
                    obtain ⟨wl, hwl⟩ : ∃ y, y = ws.length := ⟨_, rfl⟩
                    rw [← hwl] at HW2 qt ⊢
                    clear hwl hn1 hrd3 hrdV HATg HREC
                    go_wp2_with fail
                    refine (HW2.out).mono ?_
                    rintro e x4 ⟨rfl, hx4⟩
                    have HQ4 := hide (HQ3.out.trans (hx4.mono HQ3.out.size))
                    clear hx4 y4 qr qt d2 q0 q1 q2 q3 qf ql
                    go_wp2
                    go_roundw
                    case rel => exact ⟨g + 1, by omega, by go_num, HQ4⟩
                    case measure => simp [intOf]; omega
                  | none =>
                    rw [hrec] at hrcg
                    have hget : g ≤ N → ∃ ws, (AL t)[g]? = some ws := fun h9 => ⟨(AL t)[g]'(by have := Hrlen.out; omega), List.getElem?_eq_getElem _⟩
                    have hnk : ¬ (g ≤ N ∧ ((N - g : Nat) : Int) < dn) := fun hc => by
                      rw [if_pos hc] at hrcg
                      obtain ⟨ws, hws⟩ := hget hc.1
                      rw [hws] at hrcg
                      cases hrcg
                    have HREC := hide (HRN.out wr HBQ.out g (by omega) hrec)
                    have dec0 : decide ((g : Int) ≤ (N : Int) + 1) = true := by simp; omega
                    clear hrcg hrec hget
                    by_cases hk1 : g ≤ N
                    · obtain ⟨d, hd⟩ : ∃ d, d = N - g := ⟨_, rfl⟩
                      have hk2 : ¬ ((d : Nat) : Int) < dn := fun h9 => hnk ⟨hk1, by rw [← hd]; exact h9⟩
                      have hgN : (N : Int) - (g : Int) = d := by omega
                      have dec1 : decide (g ≤ N) = true := by simpa using hk1
                      have dec2 : decide (d < dn) = false := by simp; omega
                      have hdN : d ≤ N := by omega
                      clear hnk hd
                      have hw1 : IntKind.u64.wrap ((N : Int) + 1) = (N : Int) + 1 := u64_id (by omega) (by omega)
                      have hw3 : IntKind.u64.wrap (dn : Int) = (dn : Int) := u64_id (by omega) (by omega)
                      have hw2 : IntKind.u64.wrap ((N : Int) - (g : Int)) = (d : Int) := by rw [hgN]; exact u64_id (by omega) (by omega)
                      go_wp2_with fail
                      refine (HREC.out).mono ?_
                      rintro e x3 ⟨rfl, hx3⟩
                      have HQ3 := hide (HQ.out.trans (hx3.mono HQ.out.size))
                      have HB3 := hide (HBQ.out.trans (hx3.mono HBQ.out.size))
                      obtain ⟨q0, q1, q2, q3, qf, ql⟩ := row4 (HCF.out x3 HB3.out)
                      obtain ⟨bt, ot, hv, hbt, htc, htm, d2⟩ := HTD.out x3 (Hbw0.out.trans (HB3.out.mono (by omega)))
                      cases hv
                      clear hx3
                      clear HREC
                      go_wp2
                      go_roundw
                      case rel => exact ⟨g + 1, by omega, by go_num, HQ3⟩
                      case measure => simp [intOf]; omega
                    · have dec1 : decide (g ≤ N) = false := by simpa using hk1
                      have hw1 : IntKind.u64.wrap ((N : Int) + 1) = (N : Int) + 1 := u64_id (by omega) (by omega)
                      clear hnk
                      go_wp2_with fail
                      refine (HREC.out).mono ?_
                      rintro e x3 ⟨rfl, hx3⟩
                      have HQ3 := hide (HQ.out.trans (hx3.mono HQ.out.size))
                      clear hx3 HREC
                      go_wp2
                      go_roundw
                      case rel => exact ⟨g + 1, by omega, by go_num, HQ3⟩
                      case measure => simp [intOf]; omega
                · have hgN2 : g = N + 2 := by omega
                  have dec0 : decide ((g : Int) ≤ (N : Int) + 1) = false := by simp; omega
                  have hw1 : IntKind.u64.wrap ((N : Int) + 1) = (N : Int) + 1 := by rw [IntKind.wrap_u64]; omega
                  have HGo := hide hgN2
                  clear hgN2
                  go_wp2
                  go_roundw
                  case rel => exact ⟨t + 1, by omega, by go_num, HBQ⟩
                  case measure => simp [intOf]; omega
            · have htt : t = tl := by omega
              subst htt
              have hwr := Hb01.out.trans ((HP2.out.play.below.trans (HB.out.mono hlow)).mono hlow1)
              clear hcf
              go_wp2_with fail
              refine (HAw.out _ hwr).mono ?_
              rintro e w9 ⟨rfl, hb9⟩
              go_wp2
              go_ret
              exact ⟨by simp, below2 hwr hb9⟩
    · have hc2 : (checkS a ts b c).2 ≠ 0 := fun h => hck (check_zero h)
      have HNB := hide (fun w' (hb : Below w.heap.size w w') => newbad_any a b c ts (.slice A ts.length cc) w' (hr.below hb) (fun t ht => by have := hts t ht; omega) hck)
      have HRB := hide (fun w' (hb : Below w.heap.size w w') => rnew_bad a b c ts (.slice A ts.length cc) w' (hr.below hb) (fun t ht => by have := hts t ht; omega) hc2)
      rw [← htl] at HNB HRB
      obtain ⟨F2, hF2⟩ : ∃ F2, F2 = (checkS a ts b c).2 := ⟨_, rfl⟩
      rw [← hF2] at HNB HRB hc2
      have hc3 : (F2 != 0) = true := by simpa using hc2
      clear hfew hfw hts h150 h100 hck hF2 hr hl hopen hn htl hF hW hc2
      go_enter Tryz.func3, Tryz.ntmps3
      go_wp2_with fail
      refine (HFew.out _ hb0).mono ?_
      rintro e w1 ⟨rfl, hb1⟩
      have hb01 := below2 hb0 hb1
      have hT1 : w1.heap[w.heap.size]? = some (cfgO a (.slice A tl cc) b c) := (hb1.block _ (by simp)).trans (heap_alloc_new w _)
      obtain ⟨q0, q1, q2, q3, qf, ql⟩ := row4 hT1
      go_wp2_with fail
      refine (HNB.out _ hb01).mono ?_
      rintro e w2 ⟨rfl, hb2⟩
      have hb02 := below2 hb01 hb2
      have hT2 : w2.heap[w.heap.size]? = some (cfgO a (.slice A tl cc) b c) := (hb2.block _ (block_lt hT1)).trans hT1
      clear q0 q1 q2 q3 qf ql
      obtain ⟨q0, q1, q2, q3, qf, ql⟩ := row4 hT2
      go_wp2_with fail
      refine (HRB.out _ hb02).mono ?_
      rintro e w3 ⟨rfl, hb3⟩
      have hb03 := below2 hb02 hb3
      go_wp2_with fail
      refine (HAw.out _ hb03).mono ?_
      rintro e w9 ⟨rfl, hb9⟩
      go_wp2
      go_ret
      exact ⟨by simp, below2 hb03 hb9⟩
  · have hff : (fewS ts && fewA l) = false := by simpa using hfew
    rw [hff] at HFew
    clear hfew hff hr hl hopen hn htl hF hW
    go_enter Tryz.func3, Tryz.ntmps3
    go_wp2_with fail
    refine (HFew.out _ hb0).mono ?_
    rintro e w1 ⟨rfl, hb1⟩
    have hb01 := below2 hb0 hb1
    have hT1 : w1.heap[w.heap.size]? = some (cfgO a (.slice A tl cc) b c) := (hb1.block _ (by simp)).trans (heap_alloc_new w _)
    obtain ⟨q0, q1, q2, q3, qf, ql⟩ := row4 hT1
    go_wp2_with fail
    refine (HAw.out _ hb01).mono ?_
    rintro e w9 ⟨rfl, hb9⟩
    go_wp2
    go_ret
    exact ⟨by simp, below2 hb01 hb9⟩

end Go.Proofs.YtclgmikdjcjjdaaGreatDoor
