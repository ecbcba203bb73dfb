/-
  The walk of the law BoardCopies: it answers true. Conditions: a config and acts in memory; the calls' fields and the ways between modes, in memory.
-/
import Derived.Test.YtbbcajnbdebmfaaDoorBWake
import Derived.Test.YtbbcajnbdebmfaaDoorBPlays
import Derived.Test.YtbbcajnbdebmfaaDoorBFew
import Derived.Test.YtbbcajnbdebmfaaDoorBCopiesP
import Derived.Deep.AppendLies
import Derived.Deep.Cut
namespace Go.Proofs.YtbbcajnbdebmfaaDoor
open Go.RowKit

theorem ints1 (w : World) (z : Int) : Rd (w.alloc (.cells #[.int .i64 z] 3)) (.slice (some ⟨w.heap.size, 0, none⟩) 1 1) 1 1 ([z].map (Value.int .i64)) :=
  Rd.of_own (base := 0) (e := 3) ⟨rfl, .inr ⟨w.heap.size, 1, _, rfl, Nat.zero_le _, heap_alloc_new w (.cells #[.int .i64 z] 3), Nat.le_refl _, by unfold maxLen; omega, rfl, rfl⟩⟩
theorem ints2 (w : World) (z y : Int) : Rd (w.alloc (.cells #[.int .i64 z, .int .i64 y] 3)) (.slice (some ⟨w.heap.size, 0, none⟩) 2 2) 1 2 ([z, y].map (Value.int .i64)) :=
  Rd.of_own (base := 0) (e := 3) ⟨rfl, .inr ⟨w.heap.size, 2, _, rfl, Nat.zero_le _, heap_alloc_new w (.cells #[.int .i64 z, .int .i64 y] 3), Nat.le_refl _, by unfold maxLen; omega, rfl, rfl⟩⟩

theorem add_plain' (b o j : Nat) : (Addr.add ⟨b, o, none⟩ j) = ⟨b, o + j, none⟩ := by
  unfold Addr.add
  by_cases h : j = 0
  · simp [h]
  · simp [h]
theorem one_u64 (l : List Int) : ∀ u ∈ u64V l, u.oneCell' = true := by
  intro u hu
  obtain ⟨z, -, rfl⟩ := List.mem_map.1 hu
  rfl

set_option maxRecDepth 1000000 in
set_option maxHeartbeats 3200000 in
theorem lawcopies_any (a b c : Int) (ts : List Tp) (u lv : Value) (l : List Ac) (t0 t1 : Int) (w : World) (hr : Rd w u 3 ts.length (flatT ts)) (hl : ActsAt w lv l) (hF : FieldsAt w) (hW : WaysAt w) :
    Calls Tryd.prog 4 #[cfgV a u b c, lv, .agg #[.int .i64 t0, .int .i64 t1]] w fun e w' => e = .returned (.bool true) ∧ Below w.heap.size w w' := by
  obtain ⟨A, cc, rfl, -⟩ := id hr.shape
  obtain ⟨LA, lc, rfl, hl1, hl2, hopen⟩ := id hl
  have HAw := hide (fun w' (hb : Below w.heap.size w w') => awake_any w' (hF.below hb) (hW.below hb))
  have HFew := hide (fun w' (hb : Below w.heap.size w w') => few18_any a b c ts (.slice A ts.length cc) (.slice LA l.length lc) l w' (hr.below hb) (hl.below hb))
  have HPl := hide (fun (hck : checkS a ts b c = (0, 0)) (hts : ∀ t ∈ ts, t.1.size ≤ 40) (h150 : l.length ≤ 150) (h100 : ∀ x ∈ l, x.c.set.length ≤ 100 ∧ x.c.words.length ≤ 100) w' (hb : Below w.heap.size w w') =>
    plays_any a b c ts (.slice A ts.length cc) (.slice LA l.length lc) l w' (hr.below hb) (hl.below hb) (hF.below hb) (hW.below hb) hck hts h150 h100)
  have HC := hide (fun (hts : ∀ t ∈ ts, t.1.size ≤ 40) w' (hb : Below w.heap.size w w') => check_any a b c ts (.slice A ts.length cc) w' (hr.below hb) (fun t ht => by have := hts t ht; omega))
  obtain ⟨n, hn⟩ : ∃ n, n = l.length := ⟨_, rfl⟩
  obtain ⟨tl, htl⟩ : ∃ tl, tl = ts.length := ⟨_, rfl⟩
  have htp : (playsS (newS a ts b c) l).tp.length = tl := by rw [playsS_tp, htl]; rfl
  have Htp := hide htp
  by_cases hfew : (fewS ts && fewA l) = true
  · rw [hfew] at HFew
    rw [Bool.and_eq_true] at hfew
    have hts := (few_true hfew.1).2
    obtain ⟨h150, h100⟩ := fewA_true hfew.2
    have HC' := hide (HC.out hts)
    rw [← hn] at HFew HPl h150
    rw [← htl] at HFew HPl HC'
    rw [← htl, ← hn]
    have hb0 := below2 (below_new w (cfgO a (.slice A tl cc) b c)) (below_new _ (.cells #[.int .i64 t0, .int .i64 t1] 53))
    have hA1 := (heap_two w (cfgO a (.slice A tl cc) b c) (.cells #[.int .i64 t0, .int .i64 t1] 53)).1
    have hA5 := (heap_two w (cfgO a (.slice A tl cc) b c) (.cells #[.int .i64 t0, .int .i64 t1] 53)).2
    obtain ⟨⟨F1, F2⟩, hFF⟩ : ∃ F, F = checkS a ts b c := ⟨_, rfl⟩
    rw [← hFF] at HC'
    by_cases h1 : F1 = 0
    · subst h1
      by_cases h2 : F2 = 0
      · subst h2
        have HP := hide (HPl.out hFF.symm hts h150 h100)
        have Hn := hide hn
        have HF := hide hF
        have HW := hide hW
        clear HC HPl hfew hts h100 hFF hr hl hopen hn htl hF hW htp
        go_enter Tryd.func4, Tryd.ntmps4
        go_wp2_with fail
        refine (HFew.out _ hb0).mono ?_
        rintro e w1 ⟨rfl, hb1⟩
        have hb01 := below2 hb0 hb1
        have hT1 := (hb1.block _ (block_lt hA1)).trans hA1
        have hT5 := (hb1.block _ (block_lt hA5)).trans hA5
        obtain ⟨q0, q1, q2, q3, qf, ql⟩ := row4 hT1
        go_wp2_with fail
        refine (HC'.out _ hb01).mono ?_
        rintro e w3 ⟨rfl, hb3⟩
        have hb03 := below2 hb01 hb3
        have hV1 := (hb3.block _ (block_lt hT1)).trans hT1
        have hV5 := (hb3.block _ (block_lt hT5)).trans hT5
        clear q0 q1 q2 q3 qf ql hT1 hT5 hA1 hA5 hb1 hb3 hb01 hb0
        obtain ⟨q0, q1, q2, q3, qf, ql⟩ := row4 hV1
        go_wp2_with fail
        refine (HP.out _ hb03).mono ?_
        rintro e w4 ⟨m1, rfl, P1, hfr1⟩
        have hb34 := P1.below
        have hb04 := below2 hb03 hb34
        have hl5 := block_lt hV5
        have K1 : Bk w4 m1 w.heap.size (cfgO a (.slice A tl cc) b c) := ⟨(hb34.block _ (block_lt hV1)).trans hV1, fun ho => by have := hfr1 _ (.inl ho); omega⟩
        have K5 : Bk w4 m1 (w.heap.size + 1) (.cells #[.int .i64 t0, .int .i64 t1] 53) := ⟨(hb34.block _ hl5).trans hV5, fun ho => by have := hfr1 _ (.inl ho); omega⟩
        obtain ⟨S, hS⟩ : ∃ S, S = playsS (newS a ts b c) l := ⟨_, rfl⟩
        rw [← hS] at P1 Htp
        have Q1 : Play w w4 n m1 S := ⟨P1.is, hb04, fun i hi => Nat.le_trans hb03.size (hfr1 i (.inl hi))⟩
        have hgl : S.gens.length = tl := Q1.is.inv.glen.trans Htp.out
        have htk := Q1.is.inv.tasks.1
        have HNl := hide (fun t (ht : S.has t = true) => newest_has Q1.is.inv ht)
        obtain ⟨cd, G, gs, ws, hX, hY, hcase⟩ := copy_snap S t0 htk
        obtain ⟨p, hp⟩ : ∃ p, p = ws.length := ⟨_, rfl⟩
        obtain ⟨pg, hpg⟩ : ∃ pg, pg = gs.length := ⟨_, rfl⟩
        have HX := hide (Q1.ans HF.out HW.out (by omega) (copyC t0) cd G [] ws hX nilS (Rd.nil _ _) (by simp [copyC]) rfl 0 p rfl hp)
        have HY := hide (fun k (hk : k + 1 ≤ 1000000) m x (P : Play w x k m S) => (P.on (below_new x (.cells #[.int .i64 t0] 3))).ans HF.out HW.out hk (snapC [t0]) cd 0 gs ws hY (.slice (some ⟨x.heap.size, 0, none⟩) 1 1) (ints1 x t0) (by simp [snapC]) rfl pg p hpg hp)
        have Hcase := hide hcase
        have Hp := hide hp
        have Hpg := hide hpg
        obtain ⟨B, hB⟩ : ∃ B, B = m1.bb := ⟨_, rfl⟩
        rw [← hB] at HX
        rw [← hB]
        have hlB := block_lt K5.at_
        obtain ⟨a0, a1, af⟩ : w4.cell? ⟨w.heap.size + 1, 0, none⟩ = some (.int .i64 t0) ∧ w4.cell? ⟨w.heap.size + 1, 1, none⟩ = some (.int .i64 t1) ∧ ∀ i, w4.frozen? ⟨w.heap.size + 1, i, none⟩ = false := ⟨cell_of K5.at_ 0, cell_of K5.at_ 1, frozen_of K5.at_⟩
        have HB := hide hB
        clear P1 hfr1 hS hV1 hV5 hX hY hcase hp hpg hB q0 q1 q2 q3 qf ql hb34 hb03 HP HC' HFew
        go_wp2_with fail
        refine HX.out.mono ?_
        rintro e w5 ⟨m2, Ax, cx, Bx, dx, rfl, P2, hT2, gx, rx⟩
        have hm2 : m2.bb = B := hT2.bb.trans HB.out.symm
        have hn5 := below_new w5 (.cells #[.int .i64 cd, .int .i64 0, .int .u64 G, .int .i64 0, .int .u64 0, .int .i64 0, .int .i64 0, .bool false, .int .i64 0, .int .u64 0, .slice Ax 0 cx, .slice Bx p dx] 45)
        have K1b := (K1.turns hT2).below hn5
        have K5b := (K5.turns hT2).below hn5
        have KXb := Bk.new P2.is (.cells #[.int .i64 cd, .int .i64 0, .int .u64 G, .int .i64 0, .int .u64 0, .int .i64 0, .int .i64 0, .bool false, .int .i64 0, .int .u64 0, .slice Ax 0 cx, .slice Bx p dx] 45)
        have rxb := rx.below hn5
        have HYc := hide (HY.out (n + 1) (by omega) m2 _ (P2.on hn5))
        rw [hm2, alloc_size] at HYc
        clear af a0 a1 HX HY hn5 rx gx K1 K5
        obtain ⟨a0, a1, af⟩ : (w5.alloc (.cells #[.int .i64 cd, .int .i64 0, .int .u64 G, .int .i64 0, .int .u64 0, .int .i64 0, .int .i64 0, .bool false, .int .i64 0, .int .u64 0, .slice Ax 0 cx, .slice Bx p dx] 45)).cell? ⟨w.heap.size + 1, 0, none⟩ = some (.int .i64 t0) ∧ (w5.alloc (.cells #[.int .i64 cd, .int .i64 0, .int .u64 G, .int .i64 0, .int .u64 0, .int .i64 0, .int .i64 0, .bool false, .int .i64 0, .int .u64 0, .slice Ax 0 cx, .slice Bx p dx] 45)).cell? ⟨w.heap.size + 1, 1, none⟩ = some (.int .i64 t1) ∧ ∀ i, (w5.alloc (.cells #[.int .i64 cd, .int .i64 0, .int .u64 G, .int .i64 0, .int .u64 0, .int .i64 0, .int .i64 0, .bool false, .int .i64 0, .int .u64 0, .slice Ax 0 cx, .slice Bx p dx] 45)).frozen? ⟨w.heap.size + 1, i, none⟩ = false := ⟨cell_of K5b.at_ 0, cell_of K5b.at_ 1, frozen_of K5b.at_⟩
        go_wp2_with fail
        refine HYc.out.mono ?_
        rintro e w6 ⟨m3, Ay, cy, By, dy, rfl, P3, hT3, gy, ry⟩
        have hn6 := below_new w6 (.cells #[.int .i64 cd, .int .i64 0, .int .u64 0, .int .i64 0, .int .u64 0, .int .i64 0, .int .i64 0, .bool false, .int .i64 0, .int .u64 0, .slice Ay pg cy, .slice By p dy] 45)
        have hni := below_new (w5.alloc (.cells #[.int .i64 cd, .int .i64 0, .int .u64 G, .int .i64 0, .int .u64 0, .int .i64 0, .int .i64 0, .bool false, .int .i64 0, .int .u64 0, .slice Ax 0 cx, .slice Bx p dx] 45)) (.cells #[.int .i64 t0] 3)
        have K1c := ((K1b.below hni).turns hT3).below hn6
        have K5c := ((K5b.below hni).turns hT3).below hn6
        have KXc := ((KXb.below hni).turns hT3).below hn6
        have KYc := Bk.new P3.is (.cells #[.int .i64 cd, .int .i64 0, .int .u64 0, .int .i64 0, .int .u64 0, .int .i64 0, .int .i64 0, .bool false, .int .i64 0, .int .u64 0, .slice Ay pg cy, .slice By p dy] 45)
        have rXc := ((rxb.below hni).turns hT3).below hn6
        have rYc := ry.below hn6
        have gYc := gy.below hn6
        have P3c := P3.on hn6
        have hm3 : m3.bb = B := hT3.bb.trans hm2
        clear af a0 a1 HYc hn6 hni rxb K1b K5b KXb ry gy P3 P2 hT2 hT3 hm2
        obtain ⟨i0, i1, i2, i3, i4, i5, i6, i7, i8, i9, i10, i11, if', il⟩ := row12 KXc.at_
        obtain ⟨j0, j1, j2, j3, j4, j5, j6, j7, j8, j9, j10, j11, jf, jl⟩ := row12 KYc.at_
        obtain ⟨a0, a1, af⟩ : (w6.alloc (.cells #[.int .i64 cd, .int .i64 0, .int .u64 0, .int .i64 0, .int .u64 0, .int .i64 0, .int .i64 0, .bool false, .int .i64 0, .int .u64 0, .slice Ay pg cy, .slice By p dy] 45)).cell? ⟨w.heap.size + 1, 0, none⟩ = some (.int .i64 t0) ∧ (w6.alloc (.cells #[.int .i64 cd, .int .i64 0, .int .u64 0, .int .i64 0, .int .u64 0, .int .i64 0, .int .i64 0, .bool false, .int .i64 0, .int .u64 0, .slice Ay pg cy, .slice By p dy] 45)).cell? ⟨w.heap.size + 1, 1, none⟩ = some (.int .i64 t1) ∧ ∀ i, (w6.alloc (.cells #[.int .i64 cd, .int .i64 0, .int .u64 0, .int .i64 0, .int .u64 0, .int .i64 0, .int .i64 0, .bool false, .int .i64 0, .int .u64 0, .slice Ay pg cy, .slice By p dy] 45)).frozen? ⟨w.heap.size + 1, i, none⟩ = false := ⟨cell_of K5c.at_ 0, cell_of K5c.at_ 1, frozen_of K5c.at_⟩
        obtain ⟨q0, q1, q2, q3, qf, ql⟩ := row4 K1c.at_
        have hyw := P3c.below
        rcases Hcase.out with ⟨hcd, hh⟩ | ⟨hcd, hh, hgs, hws, hG⟩
        · subst hcd
          have hor : t0 < 0 ∨ (0 ≤ t0 ∧ (tl : Int) ≤ t0) := by
            simp only [Bd.has, hgl, Bool.and_eq_false_iff, decide_eq_false_iff_not] at hh
            omega
          clear Hcase HNl hh hgl htk rXc rYc gYc KXc KYc K1c K5c P3c
          rcases hor with h0 | ⟨h0, h0'⟩
          · go_wp2_with fail
            refine (HAw.out _ hyw).mono ?_
            rintro e w9 ⟨rfl, hb9⟩
            go_wp2
            go_ret
            exact ⟨by simp, below2 hyw hb9⟩
          · have h0n : ¬ t0 < 0 := by omega
            go_wp2_with fail
            refine (HAw.out _ hyw).mono ?_
            rintro e w9 ⟨rfl, hb9⟩
            go_wp2
            go_ret
            exact ⟨by simp, below2 hyw hb9⟩
        · subst hcd
          have hpg1 : pg = 1 := by have := Hpg.out; rw [hgs] at this; exact this
          subst hpg1
          subst hgs
          have hgen : S.genAt t0 = G := by simp [Bd.genAt, hh, hG]
          have Hw := hide hws
          have HG := hide hG
          have a5 := K5c.sf.lt
          clear hws hG
          obtain ⟨ay, oy, cy', hvy, -, -, hby, hdy⟩ := gYc.rd.open_ (by omega)
          cases hvy
          have e0 := hdy 0 (.int .u64 G) rfl
          simp only [Nat.add_zero] at e0
          have HWd := hide (fun wq (hb : Below (w6.alloc (.cells #[.int .i64 0, .int .i64 0, .int .u64 0, .int .i64 0, .int .u64 0, .int .i64 0, .int .i64 0, .bool false, .int .i64 0, .int .u64 0, .slice (some ⟨ay, oy, none⟩) 1 cy, .slice By p dy] 45)).heap.size (w6.alloc (.cells #[.int .i64 0, .int .i64 0, .int .u64 0, .int .i64 0, .int .u64 0, .int .i64 0, .int .i64 0, .bool false, .int .i64 0, .int .u64 0, .slice (some ⟨ay, oy, none⟩) 1 cy, .slice By p dy] 45)) wq) => words_any (.slice Bx p dx) (.slice By p dy) ws ws wq (by rw [← Hp.out]; exact rXc.rd.below hb) (by rw [← Hp.out]; exact rYc.rd.below hb))
          simp only [decide_true] at HWd
          have HGn := hide (fun wq (hb : Below (w6.alloc (.cells #[.int .i64 0, .int .i64 0, .int .u64 0, .int .i64 0, .int .u64 0, .int .i64 0, .int .i64 0, .bool false, .int .i64 0, .int .u64 0, .slice (some ⟨ay, oy, none⟩) 1 cy, .slice By p dy] 45)).heap.size (w6.alloc (.cells #[.int .i64 0, .int .i64 0, .int .u64 0, .int .i64 0, .int .u64 0, .int .i64 0, .int .i64 0, .bool false, .int .i64 0, .int .u64 0, .slice (some ⟨ay, oy, none⟩) 1 cy, .slice By p dy] 45)) wq) => (gen_any t0 wq (P3c.is.below hb)).mono fun e w' h => (⟨h.1, by rw [h.2]; exact Below.refl _ _⟩ : _ ∧ Below wq.heap.size wq w'))
          rw [hgen, hm3] at HGn
          go_upto_region 12 with fail
          generalize w6.alloc (.cells #[.int .i64 0, .int .i64 0, .int .u64 0, .int .i64 0, .int .u64 0, .int .i64 0, .int .i64 0, .bool false, .int .i64 0, .int .u64 0, .slice (some ⟨ay, oy, none⟩) 1 cy, .slice By p dy] 45) = y at *
          generalize w5.heap.size = gX at *
          generalize w6.heap.size = gY at *
          refine wp_region_ext (by kernel_rfl) (by kernel_rfl) ?_
          repeat (first
            | go_big_quiet_skip
            | (go_big_quiet_want
               first
                 | (apply quiet_val
                    · intro wq hq
                      have hcq := hq.cells
                      have hzq := hq.lift
                      go_simp
                      try go_bits
                      first | done | with_reducible rfl
                    (try simp only [Act.put, List.setIfInBounds_toArray, List.set_cons_zero, List.set_cons_succ])
                    go_big_quiet_on)
                 | (apply quiet_call
                    · intro wq hq
                      have hcq := hq.cells
                      have hzq := hq.lift
                      go_simp
                      first
                        | ((go_at_call 14; exact (HWd.out wq hq.below).mono fun e w' hp => ⟨hp.1, hq.call hp.2⟩))
                        | ((go_at_call 16; exact (HGn.out wq hq.below).mono fun e w' hp => ⟨hp.1, hq.call hp.2⟩))
                    (try simp only [Act.put, List.setIfInBounds_toArray, List.set_cons_zero, List.set_cons_succ])
                    go_big_quiet_on)))
          refine wpQuiet_nil ?_
          intro z hz
          have hzb := hz.below
          have K1z := K1c.below hzb
          have K5z := K5c.below hzb
          have KXz := KXc.below hzb
          have rXz := rXc.below hzb
          have Pz := P3c.on hzb
          obtain ⟨ce, G', ws', cv, gs2, vs, hZ, hV, hcase2⟩ := copy_two S t0 t1 htk hh
          obtain ⟨p', hp'⟩ : ∃ p', p' = ws'.length := ⟨_, rfl⟩
          obtain ⟨pv, hpv⟩ : ∃ pv, pv = gs2.length := ⟨_, rfl⟩
          obtain ⟨qv, hqv⟩ : ∃ qv, qv = vs.length := ⟨_, rfl⟩
          have HZ := hide (Pz.ans HF.out HW.out (by omega) (copyC t1) ce G' [] ws' hZ nilS (Rd.nil _ _) (by simp [copyC]) rfl 0 p' rfl hp')
          rw [hm3] at HZ
          have HV := hide (fun k (hk : k + 1 ≤ 1000000) m x (P : Play w x k m S) => (P.on (below_new x (.cells #[.int .i64 t0, .int .i64 t1] 3))).ans HF.out HW.out hk (snapC [t0, t1]) cv 0 gs2 vs hV (.slice (some ⟨x.heap.size, 0, none⟩) 2 2) (ints2 x t0 t1) (by simp [snapC]) rfl pv qv hpv hqv)
          have Hcase2 := hide hcase2
          have Hpq := hide (And.intro hp' (And.intro hpv hqv))
          have Hh := hide (And.intro hh (And.intro Hw.out HG.out))
          clear a0 a1 af i0 i1 i2 i3 i4 i5 i6 i7 i8 i9 i10 i11 if' il j0 j1 j2 j3 j4 j5 j6 j7 j8 j9 j10 j11 jf jl q0 q1 q2 q3 qf ql hz hzb K1c K5c KXc KYc rXc rYc gYc P3c hZ hV hcase2 hp' hpv hqv hh Hw HG a5 HWd HGn e0 hdy hby hyw Hcase
          obtain ⟨a0, a1, af⟩ : z.cell? ⟨w.heap.size + 1, 0, none⟩ = some (.int .i64 t0) ∧ z.cell? ⟨w.heap.size + 1, 1, none⟩ = some (.int .i64 t1) ∧ ∀ i, z.frozen? ⟨w.heap.size + 1, i, none⟩ = false := ⟨cell_of K5z.at_ 0, cell_of K5z.at_ 1, frozen_of K5z.at_⟩
          go_wp2_with fail
          refine HZ.out.mono ?_
          rintro e w8 ⟨m4, Az, cz, Bz, dz, rfl, P4, hT4, gz, rz⟩
          have hm4 : m4.bb = B := hT4.bb.trans hm3
          have hn8 := below_new w8 (.cells #[.int .i64 ce, .int .i64 0, .int .u64 G', .int .i64 0, .int .u64 0, .int .i64 0, .int .i64 0, .bool false, .int .i64 0, .int .u64 0, .slice Az 0 cz, .slice Bz p' dz] 45)
          have K5b := (K5z.turns hT4).below hn8
          have KXb := (KXz.turns hT4).below hn8
          have KZb := Bk.new P4.is (.cells #[.int .i64 ce, .int .i64 0, .int .u64 G', .int .i64 0, .int .u64 0, .int .i64 0, .int .i64 0, .bool false, .int .i64 0, .int .u64 0, .slice Az 0 cz, .slice Bz p' dz] 45)
          have rXb := (rXz.turns hT4).below hn8
          have rZb := rz.below hn8
          have HVc := hide (HV.out (n + 1 + 1 + 1) (by omega) m4 _ (P4.on hn8))
          rw [hm4, alloc_size] at HVc
          clear af a0 a1 HZ HV hn8 rz gz K1z K5z KXz rXz
          obtain ⟨a0, a1, af⟩ : (w8.alloc (.cells #[.int .i64 ce, .int .i64 0, .int .u64 G', .int .i64 0, .int .u64 0, .int .i64 0, .int .i64 0, .bool false, .int .i64 0, .int .u64 0, .slice Az 0 cz, .slice Bz p' dz] 45)).cell? ⟨w.heap.size + 1, 0, none⟩ = some (.int .i64 t0) ∧ (w8.alloc (.cells #[.int .i64 ce, .int .i64 0, .int .u64 G', .int .i64 0, .int .u64 0, .int .i64 0, .int .i64 0, .bool false, .int .i64 0, .int .u64 0, .slice Az 0 cz, .slice Bz p' dz] 45)).cell? ⟨w.heap.size + 1, 1, none⟩ = some (.int .i64 t1) ∧ ∀ i, (w8.alloc (.cells #[.int .i64 ce, .int .i64 0, .int .u64 G', .int .i64 0, .int .u64 0, .int .i64 0, .int .i64 0, .bool false, .int .i64 0, .int .u64 0, .slice Az 0 cz, .slice Bz p' dz] 45)).frozen? ⟨w.heap.size + 1, i, none⟩ = false := ⟨cell_of K5b.at_ 0, cell_of K5b.at_ 1, frozen_of K5b.at_⟩
          go_wp2_with fail
          refine HVc.out.mono ?_
          rintro e w9 ⟨m5, Av, cv', Bv, dv, rfl, P5, hT5, gv, rv⟩
          have hn9 := below_new w9 (.cells #[.int .i64 cv, .int .i64 0, .int .u64 0, .int .i64 0, .int .u64 0, .int .i64 0, .int .i64 0, .bool false, .int .i64 0, .int .u64 0, .slice Av pv cv', .slice Bv qv dv] 45)
          have hni := below_new (w8.alloc (.cells #[.int .i64 ce, .int .i64 0, .int .u64 G', .int .i64 0, .int .u64 0, .int .i64 0, .int .i64 0, .bool false, .int .i64 0, .int .u64 0, .slice Az 0 cz, .slice Bz p' dz] 45)) (.cells #[.int .i64 t0, .int .i64 t1] 3)
          have K5c := ((K5b.below hni).turns hT5).below hn9
          have KXc := ((KXb.below hni).turns hT5).below hn9
          have KZc := ((KZb.below hni).turns hT5).below hn9
          have KVc := Bk.new P5.is (.cells #[.int .i64 cv, .int .i64 0, .int .u64 0, .int .i64 0, .int .u64 0, .int .i64 0, .int .i64 0, .bool false, .int .i64 0, .int .u64 0, .slice Av pv cv', .slice Bv qv dv] 45)
          have rXc := ((rXb.below hni).turns hT5).below hn9
          have rZc := ((rZb.below hni).turns hT5).below hn9
          have rVc := rv.below hn9
          have gVc := gv.below hn9
          have P5c := P5.on hn9
          have hm5 : m5.bb = B := hT5.bb.trans hm4
          clear af a0 a1 HVc hn9 hni rXb rZb K5b KXb KZb rv gv P5 P4 hT4 hT5 hm4
          obtain ⟨i0, i1, i2, i3, i4, i5, i6, i7, i8, i9, i10, i11, if', il⟩ := row12 KXc.at_
          obtain ⟨j0, j1, j2, j3, j4, j5, j6, j7, j8, j9, j10, j11, jf, jl⟩ := row12 KZc.at_
          obtain ⟨v0, v1, v2, v3, v4, v5, v6, v7, v8, v9, v10, v11, vf, vl⟩ := row12 KVc.at_
          obtain ⟨a0, a1, af⟩ : (w9.alloc (.cells #[.int .i64 cv, .int .i64 0, .int .u64 0, .int .i64 0, .int .u64 0, .int .i64 0, .int .i64 0, .bool false, .int .i64 0, .int .u64 0, .slice Av pv cv', .slice Bv qv dv] 45)).cell? ⟨w.heap.size + 1, 0, none⟩ = some (.int .i64 t0) ∧ (w9.alloc (.cells #[.int .i64 cv, .int .i64 0, .int .u64 0, .int .i64 0, .int .u64 0, .int .i64 0, .int .i64 0, .bool false, .int .i64 0, .int .u64 0, .slice Av pv cv', .slice Bv qv dv] 45)).cell? ⟨w.heap.size + 1, 1, none⟩ = some (.int .i64 t1) ∧ ∀ i, (w9.alloc (.cells #[.int .i64 cv, .int .i64 0, .int .u64 0, .int .i64 0, .int .u64 0, .int .i64 0, .int .i64 0, .bool false, .int .i64 0, .int .u64 0, .slice Av pv cv', .slice Bv qv dv] 45)).frozen? ⟨w.heap.size + 1, i, none⟩ = false := ⟨cell_of K5c.at_ 0, cell_of K5c.at_ 1, frozen_of K5c.at_⟩
          have hyw := P5c.below
          rcases Hcase2.out with ⟨htu, hcv⟩ | ⟨htu, hce, hcv, hvs⟩ | ⟨htu, hhu, hce, hcv, hgs2, hws', hvs⟩
          · subst hcv
            subst htu
            go_wp2_with fail
            refine (HAw.out _ hyw).mono ?_
            rintro e w9 ⟨rfl, hb9⟩
            go_wp2
            go_ret
            exact ⟨by simp, below2 hyw hb9⟩
          · subst hcv
            subst hce
            have hqv : qv = 0 := by have := Hpq.out.2.2; rw [hvs] at this; exact this
            subst hqv
            have htu' : (t0 == t1) = false := by simp [htu]
            go_wp2_with fail
            refine (HAw.out _ hyw).mono ?_
            rintro e w9 ⟨rfl, hb9⟩
            go_wp2
            go_ret
            exact ⟨by simp, below2 hyw hb9⟩
          · subst hcv
            subst hce
            have htu' : (t0 == t1) = false := by simp [htu]
            have hpv : pv = 2 := by have := Hpq.out.2.1; rw [hgs2] at this; exact this
            subst hpv
            have hws := Hh.out.2.1
            have hG := Hh.out.2.2
            have hpp := HNl.out t0 Hh.out.1
            have hpp' := HNl.out t1 hhu
            rw [← hws, ← Hp.out] at hpp
            rw [← hws', ← Hpq.out.1] at hpp'
            rw [← hG] at hgs2
            rw [← hws] at hvs
            subst hgs2
            subst hvs
            have hqv : qv = p + p' := by have := Hpq.out.2.2; rw [List.length_append, ← Hp.out, ← Hpq.out.1] at this; exact this
            subst hqv
            have hgen : S.genAt t0 = G := by simp [Bd.genAt, Hh.out.1, hG]
            obtain ⟨bx, ox, cx', hvx, -, -, hbx, hdx⟩ := rXc.rd.open_ (by omega)
            cases hvx
            obtain ⟨bz, oz, cz', hvz, -, -, hbz, hdz⟩ := rZc.rd.open_ (by omega)
            cases hvz
            obtain ⟨ag, og, cg', hvg, -, -, hbg, hdg⟩ := gVc.rd.open_ (by omega)
            cases hvg
            have g0 := hdg 0 (.int .u64 G) rfl
            have g1 := hdg 1 (.int .u64 G') rfl
            simp only [Nat.add_zero] at g0
            have a5 := K5c.sf.lt
            have HWd := hide (fun wq (hb : Below (w9.alloc (.cells #[.int .i64 0, .int .i64 0, .int .u64 0, .int .i64 0, .int .u64 0, .int .i64 0, .int .i64 0, .bool false, .int .i64 0, .int .u64 0, .slice (some ⟨ag, og, none⟩) 2 cv', .slice Bv (p + p') dv] 45)).heap.size (w9.alloc (.cells #[.int .i64 0, .int .i64 0, .int .u64 0, .int .i64 0, .int .u64 0, .int .i64 0, .int .i64 0, .bool false, .int .i64 0, .int .u64 0, .slice (some ⟨ag, og, none⟩) 2 cv', .slice Bv (p + p') dv] 45)) wq) => (gen_any t0 wq (P5c.is.below hb)).mono fun e w' h => (⟨h.1, by rw [h.2]; exact Below.refl _ _⟩ : _ ∧ Below wq.heap.size wq w'))
            rw [hgen, hm5] at HWd
            have HP5 := hide P5c
            have HKV := hide KVc.at_
            have HKZ := hide KZc.at_
            have HKX := hide KXc.at_
            have HK5 := hide K5c.at_
            have HrX := hide rXc
            have HrZ := hide rZc
            have HrV := hide rVc
            have Hdx := hide hdx
            have Hdz := hide hdz
            have Hpp := hide (And.intro hpp hpp')
            have hpn : 0 < p := by omega
            have hpn' : 0 < p' := by omega
            have hp1 : p ≤ 100 := by omega
            have hp1' : p' ≤ 100 := by omega
            obtain ⟨z0, hi, hz0, hz1, hz2⟩ := info_parts info_u64
            clear Hcase2 hws hws' hG hhu htu hgen hdx hdz hdg rXc rZc rVc gVc P5c hpp hpp' K5c KXc KZc KVc HNl hgl htk hm5
            have Hyw := hide hyw
            clear hyw
            go_upto_region 21 with fail
            generalize w9.alloc (.cells #[.int .i64 0, .int .i64 0, .int .u64 0, .int .i64 0, .int .u64 0, .int .i64 0, .int .i64 0, .bool false, .int .i64 0, .int .u64 0, .slice (some ⟨ag, og, none⟩) 2 cv', .slice Bv (p + p') dv] 45) = y at *
            generalize w9.heap.size = gV at *
            generalize w8.heap.size = gZ at *
            have hgB : ∀ w10 : World, y.grownBy w10 none → Below y.heap.size y w10 := fun w10 hg => ⟨hg.os, hg.tape, hg.output, hg.size, fun i hi => hg.block i hi (by simp)⟩
            have HgB := hide hgB
            clear hgB
            go_wp2_with (first
              | (at_builtin; refine wpList_append_lies _ rfl (.tmp 138) (.tmp 140) 36 rfl 0 41 z0 _ 1 8 und_u64s hi hz0 hz1 hz2 rfl (by decide) nilS 0 [] rfl (World.ownsRow_nil _ _ _ _) ⟨bx, ox, none⟩ p dx (u64V ws) rfl (by rw [Hp.out]; simp) (fun j u hj => by rw [add_plain']; exact Hdx.out j u hj) (one_u64 _) hpn (by unfold maxLen; omega) (by omega) (Nat.zero_le _) y.heap.size rfl ?_; intro g capp w10 hown hgrow hat hlt; simp only [Nat.zero_add, List.nil_append] at hown; have hB10 := HgB.out w10 hgrow; have V1 := row12 ((hB10.block _ (block_lt HKV.out)).trans HKV.out); have Z1 := row12 ((hB10.block _ (block_lt HKZ.out)).trans HKZ.out); obtain ⟨s0, s1, s2, s3, s4, s5, s6, s7, s8, s9, s10, s11, sf, sl⟩ := Z1; have Hgy := hide (show g = y.heap.size from hat.elim (fun h => by cases h) id); clear hat; simp only [Nat.zero_add])
              | (at_builtin; refine wpList_append_lies _ rfl (.tmp 142) (.tmp 144) 36 rfl 0 41 z0 _ 1 8 und_u64s hi hz0 hz1 hz2 rfl (by decide) (.slice (some ⟨g, 0, none⟩) p capp) p (u64V ws) rfl hown ⟨bz, oz, none⟩ p' dz (u64V ws') rfl (by rw [Hpq.out.1]; simp) (fun j u hj => by rw [add_plain']; exact ((hB10.cell (p := ⟨bz, oz + j, none⟩) hbz).trans (Hdz.out j u hj))) (one_u64 _) hpn' (by unfold maxLen; omega) (by omega) (Nat.zero_le _) w10.heap.size rfl ?_; intro g2 capp2 w11 hown2 hgrow2 hat2 hlt2))
            have hB11 : Below y.heap.size y w11 := ⟨hgrow2.os.trans hB10.os, hgrow2.tape.trans hB10.tape, hgrow2.output.trans hB10.output, Nat.le_trans hB10.size hgrow2.size, fun i hi => (hgrow2.block i (Nat.lt_of_lt_of_le hi hB10.size) (fun e => by
              have e' : some i = some g := e
              have := Option.some.inj e'
              have := Hgy.out
              omega)).trans (hB10.block i hi)⟩
            clear i0 i1 i2 i3 i4 i5 i6 i7 i8 i9 i10 i11 if' il j0 j1 j2 j3 j4 j5 j6 j7 j8 j9 j10 j11 jf jl v0 v1 v2 v3 v4 v5 v6 v7 v8 v9 v10 v11 vf vl s0 s1 s2 s3 s4 s5 s6 s7 s8 s9 s10 s11 sf sl V1 a0 a1 af
            obtain ⟨v0, v1, v2, v3, v4, v5, v6, v7, v8, v9, v10, v11, vf, vl⟩ := row12 ((hB11.block gV (block_lt HKV.out)).trans HKV.out)
            obtain ⟨i0, i1, i2, i3, i4, i5, i6, i7, i8, i9, i10, i11, if', il⟩ := row12 ((hB11.block gX (block_lt HKX.out)).trans HKX.out)
            obtain ⟨j0, j1, j2, j3, j4, j5, j6, j7, j8, j9, j10, j11, jf, jl⟩ := row12 ((hB11.block gZ (block_lt HKZ.out)).trans HKZ.out)
            have h5 := (hB11.block _ (block_lt HK5.out)).trans HK5.out
            have a0 := cell_of h5 0
            have a6 := block_lt h5
            have x0 := (hB11.cell (p := ⟨ag, og, none⟩) hbg).trans g0
            have x1 := (hB11.cell (p := ⟨ag, og + 1, none⟩) hbg).trans g1
            have xb := Nat.lt_of_lt_of_le hbg hB11.size
            have hlen : (ws ++ ws').length = p + p' := by rw [List.length_append, ← Hp.out, ← Hpq.out.1]
            have HWo := hide (fun wq (hb : Below w11.heap.size w11 wq) => words_any (.slice Bv (p + p') dv) (.slice (some ⟨g2, 0, none⟩) (p + p') capp2) (ws ++ ws') (ws ++ ws') wq (by rw [hlen]; exact HrV.out.rd.below (below2 hB11 hb)) (by
              rw [hlen]
              have h := Rd.of_own hown2
              rw [show u64V (ws ++ ws') = u64V ws ++ u64V ws' by simp [u64V]]
              exact h.below hb))
            simp only [decide_true] at HWo
            have HB11 := hide hB11
            clear hgrow hgrow2 hown hown2 hB10 hB11 h5 g0 g1 hlt hlt2 hat2 hbx hbz hbg hlen a5
            refine wp_region_ext (by kernel_rfl) (by kernel_rfl) ?_
            repeat (first
              | go_big_quiet_skip
              | (go_big_quiet_want
                 first
                   | (apply quiet_val
                      · intro wq hq
                        have hcq := hq.cells
                        have hzq := hq.lift
                        go_simp
                        try go_bits
                        first | done | with_reducible rfl
                      (try simp only [Act.put, List.setIfInBounds_toArray, List.set_cons_zero, List.set_cons_succ])
                      go_big_quiet_on)
                   | (apply quiet_call
                      · intro wq hq
                        have hcq := hq.cells
                        have hzq := hq.lift
                        go_simp
                        first
                          | ((go_at_call 14; exact (HWo.out wq hq.below).mono fun e w' hp => ⟨hp.1, hq.call hp.2⟩))
                          | ((go_at_call 16; exact (HWd.out wq (below2 HB11.out hq.below)).mono fun e w' hp => ⟨hp.1, hq.call hp.2⟩))
                          | ((go_at_call 11; exact (HAw.out wq (below2 Hyw.out (below2 HB11.out hq.below))).mono fun e w' hp => ⟨hp.1, hq.call hp.2⟩))
                      (try simp only [Act.put, List.setIfInBounds_toArray, List.set_cons_zero, List.set_cons_succ])
                      go_big_quiet_on)))
            refine wpQuiet_nil ?_
            intro wz hz
            go_wp2
            go_ret
            exact ⟨by simp, below2 (below2 Hyw.out HB11.out) hz.below⟩
      · clear HC HPl hfew hts h150 h100 hFF hr hl hopen hn htl hF hW htp
        go_enter Tryd.func4, Tryd.ntmps4
        go_wp2_with fail
        refine (HFew.out _ hb0).mono ?_
        rintro e w1 ⟨rfl, hb1⟩
        have hb01 := below2 hb0 hb1
        have hT1 := (hb1.block _ (block_lt hA1)).trans hA1
        have hT5 := (hb1.block _ (block_lt hA5)).trans hA5
        obtain ⟨q0, q1, q2, q3, qf, ql⟩ := row4 hT1
        go_wp2_with fail
        refine (HC'.out _ hb01).mono ?_
        rintro e w2 ⟨rfl, hb2⟩
        have hb02 := below2 hb01 hb2
        go_wp2_with fail
        refine (HAw.out _ hb02).mono ?_
        rintro e w9 ⟨rfl, hb9⟩
        go_wp2
        go_ret
        exact ⟨by simp, below2 hb02 hb9⟩
    · clear HC HPl hfew hts h150 h100 hFF hr hl hopen hn htl hF hW htp
      go_enter Tryd.func4, Tryd.ntmps4
      go_wp2_with fail
      refine (HFew.out _ hb0).mono ?_
      rintro e w1 ⟨rfl, hb1⟩
      have hb01 := below2 hb0 hb1
      have hT1 := (hb1.block _ (block_lt hA1)).trans hA1
      have hT5 := (hb1.block _ (block_lt hA5)).trans hA5
      obtain ⟨q0, q1, q2, q3, qf, ql⟩ := row4 hT1
      go_wp2_with fail
      refine (HC'.out _ hb01).mono ?_
      rintro e w2 ⟨rfl, hb2⟩
      have hb02 := below2 hb01 hb2
      go_wp2_with fail
      refine (HAw.out _ hb02).mono ?_
      rintro e w9 ⟨rfl, hb9⟩
      go_wp2
      go_ret
      exact ⟨by simp, below2 hb02 hb9⟩
  · have hff : (fewS ts && fewA l) = false := by simpa using hfew
    rw [hff, ← hn, ← htl] at HFew
    rw [← hn, ← htl]
    have hb0 := below2 (below_new w (cfgO a (.slice A tl cc) b c)) (below_new _ (.cells #[.int .i64 t0, .int .i64 t1] 53))
    have hA1 := (heap_two w (cfgO a (.slice A tl cc) b c) (.cells #[.int .i64 t0, .int .i64 t1] 53)).1
    have hA5 := (heap_two w (cfgO a (.slice A tl cc) b c) (.cells #[.int .i64 t0, .int .i64 t1] 53)).2
    clear HC HPl hfew hff hr hl hopen hn htl hF hW htp
    go_enter Tryd.func4, Tryd.ntmps4
    go_wp2_with fail
    refine (HFew.out _ hb0).mono ?_
    rintro e w1 ⟨rfl, hb1⟩
    have hb01 := below2 hb0 hb1
    have hT1 := (hb1.block _ (block_lt hA1)).trans hA1
    have hT5 := (hb1.block _ (block_lt hA5)).trans hA5
    obtain ⟨q0, q1, q2, q3, qf, ql⟩ := row4 hT1
    go_wp2_with fail
    refine (HAw.out _ hb01).mono ?_
    rintro e w9 ⟨rfl, hb9⟩
    go_wp2
    go_ret
    exact ⟨by simp, below2 hb01 hb9⟩

end Go.Proofs.YtbbcajnbdebmfaaDoor
