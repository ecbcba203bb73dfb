/-
  The walk of the law TasksMay: it answers true. Conditions: its arguments, as they stand in memory.
-/
import Derived.Test.YtpilfhjlfbjloaaDoorTkLawQ
import Derived.Test.YtpilfhjlfbjloaaDoorTAwake
namespace Go.Proofs.YtpilfhjlfbjloaaDoor
open Go.RowKit
attribute [local irreducible] fI

set_option maxRecDepth 100000 in
theorem few_law (kind turns : Int) (A : Option Addr) (n c : Nat) (w : World) : Calls Tryd.prog 4 #[.agg #[.int .i64 kind, .int .i64 turns, .slice A n c]] w fun e w' => e = .returned (.bool (decide ((n : Int) ≤ 70))) ∧ Below w.heap.size w w' := by
  have hb := below_new w (.cells #[.int .i64 kind, .int .i64 turns, .slice A n c] 24)
  go_enter Tryd.func4, Tryd.ntmps4
  go_wp2
  go_ret
  exact ⟨by simp, hb⟩

set_option maxRecDepth 100000 in
set_option maxHeartbeats 3200000 in
theorem lawmay_any (kind turns : Int) (l : List LOrd) (v : Value) (la : List AnsR) (va : Value) (w : World) (hr : Rd w v 6 l.length (flatL l)) (hI : ∀ o ∈ l, I64 o.re ∧ I64 o.im) (ha : Rd w va 12 la.length (flatA' la)) (hW : ∀ x ∈ la, Ws w x.wv x.a.ws) (hF : FieldsAt w) :
    Calls Tryd.prog 3 #[.agg #[.int .i64 kind, .int .i64 turns, v], va] w fun e w' => e = .returned (.bool true) ∧ Below w.heap.size w w' := by
  obtain ⟨A, c, rfl, -, -, -⟩ := hr.shape
  obtain ⟨A', c', rfl, -, -, -⟩ := ha.shape
  obtain ⟨n, hn⟩ : ∃ n, n = l.length := ⟨_, rfl⟩
  obtain ⟨m, hm⟩ : ∃ m, m = la.length := ⟨_, rfl⟩
  have HR := hide hr
  have HA := hide ha
  rw [← hn, ← hm]
  have Hn := hide hn
  have Hm := hide hm
  have HF := hide hF
  clear hr ha hn hm hF
  have hJ := heap_alloc_new w (.cells #[.int .i64 kind, .int .i64 turns, .slice A n c] 24)
  have hbJ := below_new w (.cells #[.int .i64 kind, .int .i64 turns, .slice A n c] 24)
  have HFew := hide (fun y => few_law kind turns A n c y)
  by_cases h1 : (n : Int) ≤ 70
  · have hd1 : decide ((n : Int) ≤ 70) = true := by simpa using h1
    rw [hd1] at HFew
    by_cases h2 : 60 < turns
    · go_enter Tryd.func3, Tryd.ntmps3
      go_wp2_with fail
      refine (HFew.out _).mono ?_
      rintro e w1 ⟨rfl, hb1⟩
      obtain ⟨j0, j1, j2, jf⟩ := cells3 ((hb1.block _ (block_lt hJ)).trans hJ)
      have hd2 : decide (60 < turns) = true := by simpa using h2
      go_wp2_with fail
      refine (awake_any _).mono ?_
      rintro e w9 ⟨rfl, hb9⟩
      go_wp2
      go_ret
      exact ⟨rfl, below3 hbJ hb1 hb9⟩
    · have hd2 : decide (60 < turns) = false := by simpa using h2
      by_cases h3 : 300 < (m : Int)
      · go_enter Tryd.func3, Tryd.ntmps3
        go_wp2_with fail
        refine (HFew.out _).mono ?_
        rintro e w1 ⟨rfl, hb1⟩
        obtain ⟨j0, j1, j2, jf⟩ := cells3 ((hb1.block _ (block_lt hJ)).trans hJ)
        have hd3 : decide (300 < m) = true := by simp; omega
        go_wp2_with fail
        refine (awake_any _).mono ?_
        rintro e w9 ⟨rfl, hb9⟩
        go_wp2
        go_ret
        exact ⟨rfl, below3 hbJ hb1 hb9⟩
      · have hd3 : decide (300 < m) = false := by simp; omega
        have hl70 : l.length ≤ 70 := by have := Hn.out; omega
        have HBeg := hide (fun (y : World) (hrd : Rd y (.slice A l.length c) 6 l.length (flatL l)) => begin_any kind turns l (.slice A l.length c) y hl70 hrd hI)
        rw [← Hn.out] at HBeg
        go_enter Tryd.func3, Tryd.ntmps3
        go_wp2_with fail
        refine (HFew.out _).mono ?_
        rintro e w1 ⟨rfl, hb1⟩
        replace hJ := (hb1.block _ (block_lt hJ)).trans hJ
        have hb01 := below2 hbJ hb1
        obtain ⟨j0, j1, j2, jf⟩ := cells3 hJ
        have hrd1 := HR.out.below hb01
        rw [← Hn.out] at hrd1
        go_wp2_with fail
        refine (HBeg.out _ hrd1).mono ?_
        rintro e w2 ⟨tv, rv, fc, rfl, hb2, hbad, hgood, -⟩
        by_cases hE : tnewS kind turns (l.map toR) = 0
        · obtain ⟨kd, hkd, rfl, hnew⟩ := hgood hE
          obtain ⟨T, F, rfl, hTB, htk⟩ := start_at kd (kd : Int) turns l hI _ _ _ hnew hE
          obtain ⟨-, -, ht0, ht1, -⟩ := new_zero_iff hE
          have hw1 := hb01.size
          have hJ2 := (hb2.block _ (block_lt hJ)).trans hJ
          have hb02 := below2 hb01 hb2
          have hJT : w.heap.size ≠ T := by have := block_lt hJ; omega
          rw [hE]
          clear hbad hgood hnew hE
          go_wp2_with fail
          have hF1 := HF.out.below hb01
          have hw4 : IntKind.i64.wrap (4 * turns) = 4 * turns := wrap_id (by omega) (by omega)
          have hw10 : IntKind.i64.wrap (4 * turns + 10) = 4 * turns + 10 := wrap_id (by omega) (by omega)
          go_loopw [9, 10, 11] (fun i9 i10 i11 wr => ∃ (K : Tk) (lo : List OnC) (h : Nat) (cl : Int) (i : Nat), i9 = .int .i64 cl ∧ i10 = .int .i64 K.turn ∧ i11 = .int .i64 i ∧ TkAt wr T F kd K lo h ∧ LawI kd turns K lo cl i ∧ Below w1.heap.size w1 wr) (fun _ _ i11 _ => 250 - (intOf i11).toNat)
          case atStart => exact ⟨tk0 turns l, onceL kd, 0, 0, 0, rfl, rfl, rfl, htk, law_start kd turns l, hb2⟩
          case round =>
            obtain ⟨K, lo, h, cl, i, rfl, rfl, rfl, htr, hI0, hbr⟩ := hrel
            have hcl0 := hI0.cl0
            have hlt : (i : Int) < 4 * turns + 10 := by
              have := hI0.phi; have := hI0.tn; have := htr.t1; have := htr.hi; have := (lenT_le kd).2; omega
            have hdi : decide ((i : Int) < 4 * turns + 10) = true := by simpa using hlt
            have hJr := (hbr.block _ (block_lt hJ)).trans hJ
            have hrl := block_lt hJr
            have HF3 := hide (fun (y : World) (hy : Below w1.heap.size w1 y) => FieldsAt.below hF1 hy)
            clear j0 j1 j2 jf hrd1 HBeg HFew hb1 hbJ HR htk
            obtain ⟨j0, j1, j2, jf⟩ := cells3 hJr
            by_cases hm0 : m = 0
            · have hmp : decide ((0 : Int) < (m : Int)) = false := by simp; omega
              have hmn : ¬ 0 < m := by omega
              have hmz := hide hm0
              clear hm0
              obtain ⟨X, hX⟩ : ∃ X, X = nextX kd K lo h ⟨0, 0, 0, 0, false, 0, 0, []⟩ := ⟨_, rfl⟩
              obtain ⟨Y, hY⟩ : ∃ Y, Y = nextX kd X.K [] 0 ⟨0, 0, 0, 0, false, 0, 0, []⟩ := ⟨_, rfl⟩
              have hls := law_step kd turns K lo h cl i ⟨0, 0, 0, 0, false, 0, 0, []⟩ hI0 htr.vd htr.lo htr.hi htr.t0 htr.t1
              rw [← hX] at hls
              have hbw := below2 hb01 hbr
              have hws : Ws w nilS [] := ws_nil w
              have HN : Hid (∀ (y : World), TkAt y T F kd K lo h → Ws y nilS [] → Calls Tryd.prog 7 #[.pointer (some ⟨T, 0, none⟩), ansA 0 0 (.int .u64 0) (.int .i64 0) (.int .u64 0) 0 0 false 0 0 nilS nilS] y (NextLaw T F kd X y)) := by
                rw [hX]
                exact hide (fun y h1 h2 => next_law kd hkd T F K lo hI0.sub h ⟨0, 0, 0, 0, false, 0, 0, []⟩ (.int .u64 0) (.int .i64 0) (.int .u64 0) nilS nilS y h1 h2)
              have HN2 : Hid (∀ (y : World), TkAt y T F kd X.K [] 0 → Ws y nilS [] → Calls Tryd.prog 7 #[.pointer (some ⟨T, 0, none⟩), ansA 0 0 (.int .u64 0) (.int .i64 0) (.int .u64 0) 0 0 false 0 0 nilS nilS] y (NextLaw T F kd Y y)) := by
                rw [hY]
                exact hide (fun y h1 h2 => next_law kd hkd T F X.K [] (Nat.zero_le _) 0 ⟨0, 0, 0, 0, false, 0, 0, []⟩ (.int .u64 0) (.int .i64 0) (.int .u64 0) nilS nilS y h1 h2)
              have HE2 := hide (fun (h1 : X.K.turn = X.K.turns) => law_end kd X.K ⟨0, 0, 0, 0, false, 0, 0, []⟩ h1)
              rw [← hY] at HE2
              clear hX hY
              have HP := heap_alloc_new wr (ansB 0 0 (.int .u64 0) (.int .i64 0) (.int .u64 0) 0 0 false 0 0 nilS nilS)
              have hbP := below_new wr (ansB 0 0 (.int .u64 0) (.int .i64 0) (.int .u64 0) 0 0 false 0 0 nilS nilS)
              have hTP : T < wr.heap.size := block_lt htr.ex.choose_spec.choose_spec.choose_spec.1
              go_wp2_with fail
              refine (HN.out _ (htr.below hbP) ((hws.below hbw).below hbP)).mono ?_
              rintro e w3 ⟨A3, n3, c3, rfl, hn3, ht3, hg3⟩
              subst hn3
              have hbr3 := grown_lo (below2 hbr hbP) hg3 hTB
              have hP3 := keep hg3 HP (by omega)
              obtain ⟨⟨ov, on, hr, p1, -⟩, -⟩ := id ht3
              have hlo := hls.lo
              have hhi := hls.hi
              have hK0 := htr.t0
              have hK1 : K.turn ≤ 1000 := Int.le_trans htr.t1 htr.t2
              have hcl1 : cl ≤ 6 := by
                have h1 := hI0.cl1
                have h2 := htr.hi
                have h3 := (lenT_le kd).2
                split at h1 <;> omega
              have d1 : decide (X.K.turn < K.turn) = false := by simpa using hlo
              have hwt : IntKind.i64.wrap (K.turn + 1) = K.turn + 1 := wrap_id (by omega) (by omega)
              have hwc : IntKind.i64.wrap (cl + 1) = cl + 1 := wrap_id (by omega) (by omega)
              have d2 : decide (K.turn + 1 < X.K.turn) = false := by simpa using hhi
              have hbQ := below_new w3 (.cells #[.int .i64 X.c.kind, .int .i64 X.c.topic, .int .i64 X.c.sub, .int .i64 X.c.cap, .int .i64 X.c.rank, .int .i64 X.c.source, .int .i64 X.c.mode, .int .i64 X.c.flags, .bool X.c.free, nilS, .slice A3 X.c.words.length c3] 41)
              have HQ := heap_alloc_new w3 (.cells #[.int .i64 X.c.kind, .int .i64 X.c.topic, .int .i64 X.c.sub, .int .i64 X.c.cap, .int .i64 X.c.rank, .int .i64 X.c.source, .int .i64 X.c.mode, .int .i64 X.c.flags, .bool X.c.free, nilS, .slice A3 X.c.words.length c3] 41)
              have hbrQ := below2 hbr3 hbQ
              have hbwQ := below2 hb01 hbrQ
              have hJQ := (hbrQ.block _ (block_lt hJ)).trans hJ
              have hPQ := (hbQ.block _ (block_lt hP3)).trans hP3
              have HT := hide (turn_any T X.K ov _ on hr _ ((hbQ.block _ (block_lt p1)).trans p1))
              clear j0 j1 j2 jf hJr p1
              cases his : X.is with
              | false =>
                obtain ⟨f1, ⟨f2, f2'⟩, f3, f4⟩ := hls.fin his
                rw [f1, f4] at ht3
                rw [f3]
                rw [f3] at HT HQ hbQ hbrQ hbwQ hJQ hPQ
                simp only [List.length_nil] at HT HQ hbQ hbrQ hbwQ hJQ hPQ
                have hf2 := hide f2
                have hE2 := HE2.out (f2.trans f2'.symm)
                have dE : decide (X.K.turn = turns) = true := by simpa using f2
                have hYi := hE2.1
                have hYk := hide hE2.2
                clear f2 f2' f1 f3 f4 hE2 HE2 his
                by_cases hgt : K.turn < X.K.turn
                · have d3 : decide (K.turn < X.K.turn) = true := by simpa using hgt
                  go_wp2_with fail
                  refine HT.out.mono ?_
                  rintro e w4 ⟨rfl, rfl⟩
                  obtain ⟨j0, j1, j2, jf⟩ := cells3 hJQ
                  obtain ⟨a0, a1, a2, a3, a4, a5, a6, a7, a8, a9, a10, a11, af⟩ := cells12 hPQ
                  go_wp2_with fail
                  refine (HN2.out _ (ht3.below hbQ) (hws.below hbwQ)).mono ?_
                  rintro e w5 ⟨A5, n5, c5, rfl, hn5, ht5, hg5⟩
                  have hbr5 := grown_lo hbrQ hg5 hTB
                  have hJ5 := (hbr5.block _ (block_lt hJ)).trans hJ
                  clear j0 j1 j2 jf a0 a1 a2 a3 a4 a5 a6 a7 a8 a9 a10 a11 af
                  obtain ⟨j0, j1, j2, jf⟩ := cells3 hJ5
                  have hJl5 := block_lt hJ5
                  have hQ5 := keep hg5 HQ (by have := hg3.size; simp at this; omega)
                  have hQl5 := block_lt hQ5
                  obtain ⟨q0, q1, q2, q3, q4, q5, q6, q7, q8, q9, q10, qf⟩ := cells11 hQ5
                  obtain ⟨⟨ov5, on5, hr5, y1, -⟩, -⟩ := id ht5
                  have hYk5 : Y.K.turn = X.K.turn := by rw [hYk.out]
                  have hbY := fun o => below_new w5 o
                  have HS := hide (fun o => same_none A3 c3 (w5.alloc o))
                  go_wp2_with fail
                  refine (HS.out _).mono ?_
                  rintro e w6 ⟨rfl, hb6⟩
                  have HT6 := hide (turn_any T Y.K ov5 _ on5 hr5 w6 (((below2 (hbY _) hb6).block T (block_lt y1)).trans y1))
                  rw [hYk5] at HT6
                  go_wp2_with fail
                  refine HT6.out.mono ?_
                  rintro e w7 ⟨rfl, rfl⟩
                  go_wp2_with fail
                  refine (awake_any _).mono ?_
                  rintro e w9 ⟨rfl, hb9⟩
                  go_wp2
                  go_ret
                  exact ⟨by simp, below3 (below2 hb01 hbr5) (below2 (hbY _) hb6) hb9⟩
                · have d3 : decide (K.turn < X.K.turn) = false := by simpa using hgt
                  go_wp2_with fail
                  refine HT.out.mono ?_
                  rintro e w4 ⟨rfl, rfl⟩
                  obtain ⟨j0, j1, j2, jf⟩ := cells3 hJQ
                  obtain ⟨a0, a1, a2, a3, a4, a5, a6, a7, a8, a9, a10, a11, af⟩ := cells12 hPQ
                  go_wp2_with fail
                  refine (HN2.out _ (ht3.below hbQ) (hws.below hbwQ)).mono ?_
                  rintro e w5 ⟨A5, n5, c5, rfl, hn5, ht5, hg5⟩
                  have hbr5 := grown_lo hbrQ hg5 hTB
                  have hJ5 := (hbr5.block _ (block_lt hJ)).trans hJ
                  clear j0 j1 j2 jf a0 a1 a2 a3 a4 a5 a6 a7 a8 a9 a10 a11 af
                  obtain ⟨j0, j1, j2, jf⟩ := cells3 hJ5
                  have hJl5 := block_lt hJ5
                  have hQ5 := keep hg5 HQ (by have := hg3.size; simp at this; omega)
                  have hQl5 := block_lt hQ5
                  obtain ⟨q0, q1, q2, q3, q4, q5, q6, q7, q8, q9, q10, qf⟩ := cells11 hQ5
                  obtain ⟨⟨ov5, on5, hr5, y1, -⟩, -⟩ := id ht5
                  have hYk5 : Y.K.turn = X.K.turn := by rw [hYk.out]
                  have hbY := fun o => below_new w5 o
                  have HS := hide (fun o => same_none A3 c3 (w5.alloc o))
                  go_wp2_with fail
                  refine (HS.out _).mono ?_
                  rintro e w6 ⟨rfl, hb6⟩
                  have HT6 := hide (turn_any T Y.K ov5 _ on5 hr5 w6 (((below2 (hbY _) hb6).block T (block_lt y1)).trans y1))
                  rw [hYk5] at HT6
                  go_wp2_with fail
                  refine HT6.out.mono ?_
                  rintro e w7 ⟨rfl, rfl⟩
                  go_wp2_with fail
                  refine (awake_any _).mono ?_
                  rintro e w9 ⟨rfl, hb9⟩
                  go_wp2
                  go_ret
                  exact ⟨by simp, below3 (below2 hb01 hbr5) (below2 (hbY _) hb6) hb9⟩
              | true =>
                obtain ⟨⟨k1, k2, k3⟩, hI2, k4, k5⟩ := hls.ok his
                have HC : Hid (∀ (y : World), FieldsAt y → Calls Tryd.prog 10 #[clV X.c nilS (.slice A3 X.c.words.length c3)] y fun e w' => e = .returned (.int .i64 0) ∧ Below y.heap.size y w') := by
                  rw [← k1]
                  exact hide (fun y hF => call_any X.c nilS A3 0 X.c.words.length c3 y (by rw [k3]; rfl) (by omega) rfl (by rw [k3]; exact Rd.nil _ _) hF k2)
                clear k1 k2 k3
                by_cases hgt : K.turn < X.K.turn
                · have d3 : decide (K.turn < X.K.turn) = true := by simpa using hgt
                  rw [if_pos hgt] at hI2 k4
                  clear k4
                  go_wp2_with fail
                  refine HT.out.mono ?_
                  rintro e w4 ⟨rfl, rfl⟩
                  obtain ⟨j0, j1, j2, jf⟩ := cells3 hJQ
                  obtain ⟨q0, q1, q2, q3, q4, q5, q6, q7, q8, q9, q10, qf⟩ := cells11 HQ
                  go_wp2_with fail
                  refine (HC.out _ (HF3.out _ hbrQ)).mono ?_
                  rintro e w5 ⟨rfl, hb5⟩
                  have hbr5 := below2 hbrQ hb5
                  have hJ5 := (hbr5.block _ (block_lt hJ)).trans hJ
                  have ht5 := (ht3.below hbQ).below hb5
                  clear j0 j1 j2 jf q0 q1 q2 q3 q4 q5 q6 q7 q8 q9 q10 qf
                  obtain ⟨j0, j1, j2, jf⟩ := cells3 hJ5
                  by_cases c4 : turns ≤ X.K.turn
                  · have e4 : decide (turns ≤ X.K.turn) = true := by simpa using c4
                    have e5 : decide (0 < turns) = false := by have := k5 c4; simp; omega
                    clear c4
                    go_wp2_with fail
                    go_roundw
                    case rel => exact ⟨X.K, X.l, X.h, 1, i + 1, rfl, rfl, by go_num, ht5, hI2, hbr5⟩
                    case measure => simp [intOf]; omega
                  · have e4 : decide (turns ≤ X.K.turn) = false := by simpa using c4
                    clear c4
                    go_wp2_with fail
                    go_roundw
                    case rel => exact ⟨X.K, X.l, X.h, 1, i + 1, rfl, rfl, by go_num, ht5, hI2, hbr5⟩
                    case measure => simp [intOf]; omega
                · have d3 : decide (K.turn < X.K.turn) = false := by simpa using hgt
                  rw [if_neg hgt] at hI2 k4
                  go_wp2_with fail
                  refine HT.out.mono ?_
                  rintro e w4 ⟨rfl, rfl⟩
                  obtain ⟨j0, j1, j2, jf⟩ := cells3 hJQ
                  obtain ⟨q0, q1, q2, q3, q4, q5, q6, q7, q8, q9, q10, qf⟩ := cells11 HQ
                  go_wp2_with fail
                  refine (HC.out _ (HF3.out _ hbrQ)).mono ?_
                  rintro e w5 ⟨rfl, hb5⟩
                  have hbr5 := below2 hbrQ hb5
                  have hJ5 := (hbr5.block _ (block_lt hJ)).trans hJ
                  have ht5 := (ht3.below hbQ).below hb5
                  clear j0 j1 j2 jf q0 q1 q2 q3 q4 q5 q6 q7 q8 q9 q10 qf
                  obtain ⟨j0, j1, j2, jf⟩ := cells3 hJ5
                  by_cases c3 : 3 < cl + 1
                  · obtain ⟨z1, z2⟩ := k4 c3
                    have e1 : decide (3 < cl + 1) = true := by simpa using c3
                    have e2 : decide (0 < X.K.turn) = false := by simp; omega
                    have e3 : decide (6 < cl + 1) = false := by simp; omega
                    clear z1 z2 c3 k4
                    by_cases c4 : turns ≤ X.K.turn
                    · have e4 : decide (turns ≤ X.K.turn) = true := by simpa using c4
                      have e5 : decide (0 < turns) = false := by have := k5 c4; simp; omega
                      clear c4
                      go_wp2_with fail
                      go_roundw
                      case rel => exact ⟨X.K, X.l, X.h, (cl + 1), i + 1, rfl, rfl, by go_num, ht5, hI2, hbr5⟩
                      case measure => simp [intOf]; omega
                    · have e4 : decide (turns ≤ X.K.turn) = false := by simpa using c4
                      clear c4
                      go_wp2_with fail
                      go_roundw
                      case rel => exact ⟨X.K, X.l, X.h, (cl + 1), i + 1, rfl, rfl, by go_num, ht5, hI2, hbr5⟩
                      case measure => simp [intOf]; omega
                  · have e1 : decide (3 < cl + 1) = false := by simpa using c3
                    clear c3 k4
                    by_cases c4 : turns ≤ X.K.turn
                    · have e4 : decide (turns ≤ X.K.turn) = true := by simpa using c4
                      have e5 : decide (0 < turns) = false := by have := k5 c4; simp; omega
                      clear c4
                      go_wp2_with fail
                      go_roundw
                      case rel => exact ⟨X.K, X.l, X.h, (cl + 1), i + 1, rfl, rfl, by go_num, ht5, hI2, hbr5⟩
                      case measure => simp [intOf]; omega
                    · have e4 : decide (turns ≤ X.K.turn) = false := by simpa using c4
                      clear c4
                      go_wp2_with fail
                      go_roundw
                      case rel => exact ⟨X.K, X.l, X.h, (cl + 1), i + 1, rfl, rfl, by go_num, ht5, hI2, hbr5⟩
                      case measure => simp [intOf]; omega
            · have hmp : decide ((0 : Int) < (m : Int)) = true := by simp; omega
              obtain ⟨k, hk⟩ : ∃ k, k = i % m := ⟨_, rfl⟩
              have hkm : k < m := by rw [hk]; exact Nat.mod_lt _ (by omega)
              have hrem : (i : Int).tmod (m : Int) = (k : Int) := by rw [rem_nat, hk]
              have hkl : k < la.length := by rw [← Hm.out]; exact hkm
              obtain ⟨b', o', c'', hv, -, -, hbl, hc⟩ := HA.out.open_ (by omega)
              cases hv
              have hbw := below2 hb01 hbr
              have hg := fun j u hu => (hbw.cell (p := ⟨b', o' + (k * 12 + j), none⟩) hbl).trans (hc _ u (flatA'_at la k hkl j u hu))
              have g0 := hg 0 _ rfl
              have g1 := hg 1 _ rfl
              have g2 := hg 2 _ rfl
              have g3 := hg 3 _ rfl
              have g4 := hg 4 _ rfl
              have g5 := hg 5 _ rfl
              have g6 := hg 6 _ rfl
              have g7 := hg 7 _ rfl
              have g8 := hg 8 _ rfl
              have g9 := hg 9 _ rfl
              have g10 := hg 10 _ rfl
              have g11 := hg 11 _ rfl
              rw [← Nat.add_assoc] at g1 g2 g3 g4 g5 g6 g7 g8 g9 g10 g11
              rw [Nat.add_zero] at g0
              have hws := hW la[k] (List.getElem_mem hkl)
              have hbk : b' < wr.heap.size := Nat.lt_of_lt_of_le hbl hbw.size
              clear hc hg hk
              generalize la[k] = x at *
              obtain ⟨a, gen, count, lost, ga, gn, gc, wv⟩ := x
              simp only at g0 g1 g2 g3 g4 g5 g6 g7 g8 g9 g10 g11 hws
              obtain ⟨wA, wc, rfl, -, -, -⟩ := hws.rd.shape
              obtain ⟨X, hX⟩ : ∃ X, X = nextX kd K lo h a := ⟨_, rfl⟩
              have hls := law_step kd turns K lo h cl i a hI0 htr.vd htr.lo htr.hi htr.t0 htr.t1
              rw [← hX] at hls
              have HN : Hid (∀ (y : World), TkAt y T F kd K lo h → Ws y (.slice wA a.ws.length wc) a.ws → Calls Tryd.prog 7 #[.pointer (some ⟨T, 0, none⟩), ansA a.code a.sub (.int .u64 gen) (.int .i64 count) (.int .u64 lost) a.mode a.source a.hold a.flags a.epoch (.slice ga gn gc) (.slice wA a.ws.length wc)] y (NextLaw T F kd X y)) := by
                rw [hX]
                exact hide (fun y h1 h2 => next_law kd hkd T F K lo hI0.sub h a (.int .u64 gen) (.int .i64 count) (.int .u64 lost) (.slice ga gn gc) (.slice wA a.ws.length wc) y h1 h2)
              obtain ⟨Y, hY⟩ : ∃ Y, Y = nextX kd X.K [] 0 a := ⟨_, rfl⟩
              have HN2 : Hid (∀ (y : World), TkAt y T F kd X.K [] 0 → Ws y (.slice wA a.ws.length wc) a.ws → Calls Tryd.prog 7 #[.pointer (some ⟨T, 0, none⟩), ansA a.code a.sub (.int .u64 gen) (.int .i64 count) (.int .u64 lost) a.mode a.source a.hold a.flags a.epoch (.slice ga gn gc) (.slice wA a.ws.length wc)] y (NextLaw T F kd Y y)) := by
                rw [hY]
                exact hide (fun y h1 h2 => next_law kd hkd T F X.K [] (Nat.zero_le _) 0 a (.int .u64 gen) (.int .i64 count) (.int .u64 lost) (.slice ga gn gc) (.slice wA a.ws.length wc) y h1 h2)
              have HE2 := hide (fun (h1 : X.K.turn = X.K.turns) => law_end kd X.K a h1)
              rw [← hY] at HE2
              clear hX hY
              obtain ⟨code, sub, mode, source, hold, flags, epoch, ws⟩ := a
              simp only at g0 g1 g2 g3 g4 g5 g6 g7 g8 g9 g10 g11 hws HN HN2
              have HP := heap_alloc_new wr (ansB code sub (.int .u64 gen) (.int .i64 count) (.int .u64 lost) mode source hold flags epoch (.slice ga gn gc) (.slice wA ws.length wc))
              have hbP := below_new wr (ansB code sub (.int .u64 gen) (.int .i64 count) (.int .u64 lost) mode source hold flags epoch (.slice ga gn gc) (.slice wA ws.length wc))
              have hTP : T < wr.heap.size := block_lt htr.ex.choose_spec.choose_spec.choose_spec.1
              go_wp2_with fail
              refine (HN.out _ (htr.below hbP) ((hws.below hbw).below hbP)).mono ?_
              rintro e w3 ⟨A3, n3, c3, rfl, hn3, ht3, hg3⟩
              subst hn3
              have hbr3 := grown_lo (below2 hbr hbP) hg3 hTB
              have hP3 := keep hg3 HP (by omega)
              obtain ⟨⟨ov, on, hr, p1, -⟩, -⟩ := id ht3
              have hlo := hls.lo
              have hhi := hls.hi
              have hK0 := htr.t0
              have hK1 : K.turn ≤ 1000 := Int.le_trans htr.t1 htr.t2
              have hcl1 : cl ≤ 6 := by
                have h1 := hI0.cl1
                have h2 := htr.hi
                have h3 := (lenT_le kd).2
                split at h1 <;> omega
              have d1 : decide (X.K.turn < K.turn) = false := by simpa using hlo
              have hwt : IntKind.i64.wrap (K.turn + 1) = K.turn + 1 := wrap_id (by omega) (by omega)
              have hwc : IntKind.i64.wrap (cl + 1) = cl + 1 := wrap_id (by omega) (by omega)
              have d2 : decide (K.turn + 1 < X.K.turn) = false := by simpa using hhi
              have hbQ := below_new w3 (.cells #[.int .i64 X.c.kind, .int .i64 X.c.topic, .int .i64 X.c.sub, .int .i64 X.c.cap, .int .i64 X.c.rank, .int .i64 X.c.source, .int .i64 X.c.mode, .int .i64 X.c.flags, .bool X.c.free, nilS, .slice A3 X.c.words.length c3] 41)
              have HQ := heap_alloc_new w3 (.cells #[.int .i64 X.c.kind, .int .i64 X.c.topic, .int .i64 X.c.sub, .int .i64 X.c.cap, .int .i64 X.c.rank, .int .i64 X.c.source, .int .i64 X.c.mode, .int .i64 X.c.flags, .bool X.c.free, nilS, .slice A3 X.c.words.length c3] 41)
              have hbrQ := below2 hbr3 hbQ
              have hbwQ := below2 hb01 hbrQ
              have hJQ := (hbrQ.block _ (block_lt hJ)).trans hJ
              have hPQ := (hbQ.block _ (block_lt hP3)).trans hP3
              have HT := hide (turn_any T X.K ov _ on hr _ ((hbQ.block _ (block_lt p1)).trans p1))
              clear j0 j1 j2 jf hJr p1
              cases his : X.is with
              | false =>
                obtain ⟨f1, ⟨f2, f2'⟩, f3, f4⟩ := hls.fin his
                rw [f1, f4] at ht3
                rw [f3]
                rw [f3] at HT HQ hbQ hbrQ hbwQ hJQ hPQ
                simp only [List.length_nil] at HT HQ hbQ hbrQ hbwQ hJQ hPQ
                have hf2 := hide f2
                have hE2 := HE2.out (f2.trans f2'.symm)
                have dE : decide (X.K.turn = turns) = true := by simpa using f2
                have hYi := hE2.1
                have hYk := hide hE2.2
                clear f2 f2' f1 f3 f4 hE2 HE2 his
                by_cases hgt : K.turn < X.K.turn
                · have d3 : decide (K.turn < X.K.turn) = true := by simpa using hgt
                  go_wp2_with fail
                  refine HT.out.mono ?_
                  rintro e w4 ⟨rfl, rfl⟩
                  obtain ⟨j0, j1, j2, jf⟩ := cells3 hJQ
                  obtain ⟨a0, a1, a2, a3, a4, a5, a6, a7, a8, a9, a10, a11, af⟩ := cells12 hPQ
                  go_wp2_with fail
                  refine (HN2.out _ (ht3.below hbQ) (hws.below hbwQ)).mono ?_
                  rintro e w5 ⟨A5, n5, c5, rfl, hn5, ht5, hg5⟩
                  have hbr5 := grown_lo hbrQ hg5 hTB
                  have hJ5 := (hbr5.block _ (block_lt hJ)).trans hJ
                  clear j0 j1 j2 jf a0 a1 a2 a3 a4 a5 a6 a7 a8 a9 a10 a11 af
                  obtain ⟨j0, j1, j2, jf⟩ := cells3 hJ5
                  have hJl5 := block_lt hJ5
                  have hQ5 := keep hg5 HQ (by have := hg3.size; simp at this; omega)
                  have hQl5 := block_lt hQ5
                  obtain ⟨q0, q1, q2, q3, q4, q5, q6, q7, q8, q9, q10, qf⟩ := cells11 hQ5
                  obtain ⟨⟨ov5, on5, hr5, y1, -⟩, -⟩ := id ht5
                  have hYk5 : Y.K.turn = X.K.turn := by rw [hYk.out]
                  have hbY := fun o => below_new w5 o
                  have HS := hide (fun o => same_none A3 c3 (w5.alloc o))
                  go_wp2_with fail
                  refine (HS.out _).mono ?_
                  rintro e w6 ⟨rfl, hb6⟩
                  have HT6 := hide (turn_any T Y.K ov5 _ on5 hr5 w6 (((below2 (hbY _) hb6).block T (block_lt y1)).trans y1))
                  rw [hYk5] at HT6
                  go_wp2_with fail
                  refine HT6.out.mono ?_
                  rintro e w7 ⟨rfl, rfl⟩
                  go_wp2_with fail
                  refine (awake_any _).mono ?_
                  rintro e w9 ⟨rfl, hb9⟩
                  go_wp2
                  go_ret
                  exact ⟨by simp, below3 (below2 hb01 hbr5) (below2 (hbY _) hb6) hb9⟩
                · have d3 : decide (K.turn < X.K.turn) = false := by simpa using hgt
                  go_wp2_with fail
                  refine HT.out.mono ?_
                  rintro e w4 ⟨rfl, rfl⟩
                  obtain ⟨j0, j1, j2, jf⟩ := cells3 hJQ
                  obtain ⟨a0, a1, a2, a3, a4, a5, a6, a7, a8, a9, a10, a11, af⟩ := cells12 hPQ
                  go_wp2_with fail
                  refine (HN2.out _ (ht3.below hbQ) (hws.below hbwQ)).mono ?_
                  rintro e w5 ⟨A5, n5, c5, rfl, hn5, ht5, hg5⟩
                  have hbr5 := grown_lo hbrQ hg5 hTB
                  have hJ5 := (hbr5.block _ (block_lt hJ)).trans hJ
                  clear j0 j1 j2 jf a0 a1 a2 a3 a4 a5 a6 a7 a8 a9 a10 a11 af
                  obtain ⟨j0, j1, j2, jf⟩ := cells3 hJ5
                  have hJl5 := block_lt hJ5
                  have hQ5 := keep hg5 HQ (by have := hg3.size; simp at this; omega)
                  have hQl5 := block_lt hQ5
                  obtain ⟨q0, q1, q2, q3, q4, q5, q6, q7, q8, q9, q10, qf⟩ := cells11 hQ5
                  obtain ⟨⟨ov5, on5, hr5, y1, -⟩, -⟩ := id ht5
                  have hYk5 : Y.K.turn = X.K.turn := by rw [hYk.out]
                  have hbY := fun o => below_new w5 o
                  have HS := hide (fun o => same_none A3 c3 (w5.alloc o))
                  go_wp2_with fail
                  refine (HS.out _).mono ?_
                  rintro e w6 ⟨rfl, hb6⟩
                  have HT6 := hide (turn_any T Y.K ov5 _ on5 hr5 w6 (((below2 (hbY _) hb6).block T (block_lt y1)).trans y1))
                  rw [hYk5] at HT6
                  go_wp2_with fail
                  refine HT6.out.mono ?_
                  rintro e w7 ⟨rfl, rfl⟩
                  go_wp2_with fail
                  refine (awake_any _).mono ?_
                  rintro e w9 ⟨rfl, hb9⟩
                  go_wp2
                  go_ret
                  exact ⟨by simp, below3 (below2 hb01 hbr5) (below2 (hbY _) hb6) hb9⟩
              | true =>
                obtain ⟨⟨k1, k2, k3⟩, hI2, k4, k5⟩ := hls.ok his
                have HC : Hid (∀ (y : World), FieldsAt y → Calls Tryd.prog 10 #[clV X.c nilS (.slice A3 X.c.words.length c3)] y fun e w' => e = .returned (.int .i64 0) ∧ Below y.heap.size y w') := by
                  rw [← k1]
                  exact hide (fun y hF => call_any X.c nilS A3 0 X.c.words.length c3 y (by rw [k3]; rfl) (by omega) rfl (by rw [k3]; exact Rd.nil _ _) hF k2)
                clear k1 k2 k3
                by_cases hgt : K.turn < X.K.turn
                · have d3 : decide (K.turn < X.K.turn) = true := by simpa using hgt
                  rw [if_pos hgt] at hI2 k4
                  clear k4
                  go_wp2_with fail
                  refine HT.out.mono ?_
                  rintro e w4 ⟨rfl, rfl⟩
                  obtain ⟨j0, j1, j2, jf⟩ := cells3 hJQ
                  obtain ⟨q0, q1, q2, q3, q4, q5, q6, q7, q8, q9, q10, qf⟩ := cells11 HQ
                  go_wp2_with fail
                  refine (HC.out _ (HF3.out _ hbrQ)).mono ?_
                  rintro e w5 ⟨rfl, hb5⟩
                  have hbr5 := below2 hbrQ hb5
                  have hJ5 := (hbr5.block _ (block_lt hJ)).trans hJ
                  have ht5 := (ht3.below hbQ).below hb5
                  clear j0 j1 j2 jf q0 q1 q2 q3 q4 q5 q6 q7 q8 q9 q10 qf
                  obtain ⟨j0, j1, j2, jf⟩ := cells3 hJ5
                  by_cases c4 : turns ≤ X.K.turn
                  · have e4 : decide (turns ≤ X.K.turn) = true := by simpa using c4
                    have e5 : decide (0 < turns) = false := by have := k5 c4; simp; omega
                    clear c4
                    go_wp2_with fail
                    go_roundw
                    case rel => exact ⟨X.K, X.l, X.h, 1, i + 1, rfl, rfl, by go_num, ht5, hI2, hbr5⟩
                    case measure => simp [intOf]; omega
                  · have e4 : decide (turns ≤ X.K.turn) = false := by simpa using c4
                    clear c4
                    go_wp2_with fail
                    go_roundw
                    case rel => exact ⟨X.K, X.l, X.h, 1, i + 1, rfl, rfl, by go_num, ht5, hI2, hbr5⟩
                    case measure => simp [intOf]; omega
                · have d3 : decide (K.turn < X.K.turn) = false := by simpa using hgt
                  rw [if_neg hgt] at hI2 k4
                  go_wp2_with fail
                  refine HT.out.mono ?_
                  rintro e w4 ⟨rfl, rfl⟩
                  obtain ⟨j0, j1, j2, jf⟩ := cells3 hJQ
                  obtain ⟨q0, q1, q2, q3, q4, q5, q6, q7, q8, q9, q10, qf⟩ := cells11 HQ
                  go_wp2_with fail
                  refine (HC.out _ (HF3.out _ hbrQ)).mono ?_
                  rintro e w5 ⟨rfl, hb5⟩
                  have hbr5 := below2 hbrQ hb5
                  have hJ5 := (hbr5.block _ (block_lt hJ)).trans hJ
                  have ht5 := (ht3.below hbQ).below hb5
                  clear j0 j1 j2 jf q0 q1 q2 q3 q4 q5 q6 q7 q8 q9 q10 qf
                  obtain ⟨j0, j1, j2, jf⟩ := cells3 hJ5
                  by_cases c3 : 3 < cl + 1
                  · obtain ⟨z1, z2⟩ := k4 c3
                    have e1 : decide (3 < cl + 1) = true := by simpa using c3
                    have e2 : decide (0 < X.K.turn) = false := by simp; omega
                    have e3 : decide (6 < cl + 1) = false := by simp; omega
                    clear z1 z2 c3 k4
                    by_cases c4 : turns ≤ X.K.turn
                    · have e4 : decide (turns ≤ X.K.turn) = true := by simpa using c4
                      have e5 : decide (0 < turns) = false := by have := k5 c4; simp; omega
                      clear c4
                      go_wp2_with fail
                      go_roundw
                      case rel => exact ⟨X.K, X.l, X.h, (cl + 1), i + 1, rfl, rfl, by go_num, ht5, hI2, hbr5⟩
                      case measure => simp [intOf]; omega
                    · have e4 : decide (turns ≤ X.K.turn) = false := by simpa using c4
                      clear c4
                      go_wp2_with fail
                      go_roundw
                      case rel => exact ⟨X.K, X.l, X.h, (cl + 1), i + 1, rfl, rfl, by go_num, ht5, hI2, hbr5⟩
                      case measure => simp [intOf]; omega
                  · have e1 : decide (3 < cl + 1) = false := by simpa using c3
                    clear c3 k4
                    by_cases c4 : turns ≤ X.K.turn
                    · have e4 : decide (turns ≤ X.K.turn) = true := by simpa using c4
                      have e5 : decide (0 < turns) = false := by have := k5 c4; simp; omega
                      clear c4
                      go_wp2_with fail
                      go_roundw
                      case rel => exact ⟨X.K, X.l, X.h, (cl + 1), i + 1, rfl, rfl, by go_num, ht5, hI2, hbr5⟩
                      case measure => simp [intOf]; omega
                    · have e4 : decide (turns ≤ X.K.turn) = false := by simpa using c4
                      clear c4
                      go_wp2_with fail
                      go_roundw
                      case rel => exact ⟨X.K, X.l, X.h, (cl + 1), i + 1, rfl, rfl, by go_num, ht5, hI2, hbr5⟩
                      case measure => simp [intOf]; omega
        · have htv := hbad hE
          subst htv
          have hEb : (tnewS kind turns (l.map toR) != 0) = true := by simpa using hE
          generalize tnewS kind turns (l.map toR) = EC at *
          clear hbad hgood
          go_wp2_with fail
          refine (awake_any _).mono ?_
          rintro e w9 ⟨rfl, hb9⟩
          go_wp2
          go_ret
          exact ⟨rfl, below3 hb01 hb2 hb9⟩
  · have hd1 : decide ((n : Int) ≤ 70) = false := by simpa using h1
    rw [hd1] at HFew
    go_enter Tryd.func3, Tryd.ntmps3
    go_wp2_with fail
    refine (HFew.out _).mono ?_
    rintro e w1 ⟨rfl, hb1⟩
    go_wp2_with fail
    refine (awake_any _).mono ?_
    rintro e w9 ⟨rfl, hb9⟩
    go_wp2
    go_ret
    exact ⟨rfl, below3 hbJ hb1 hb9⟩

end Go.Proofs.YtpilfhjlfbjloaaDoor
