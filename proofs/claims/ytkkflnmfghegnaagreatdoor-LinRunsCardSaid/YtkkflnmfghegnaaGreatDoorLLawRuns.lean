/-
  The walk of the law LinRuns. Conditions: names that fit memory, numbers that an int holds; the calls' fields and the ways between modes in memory.
-/
import Derived.Test.YtkkflnmfghegnaaGreatDoorLLawLegal
import Derived.Test.YtkkflnmfghegnaaGreatDoorLRunsQ
namespace Go.Proofs.YtkkflnmfghegnaaGreatDoor
open Go.RowKit

theorem gen_new (a : Int) (ts : List Tp) (b c : Int) : GenLe (newS a ts b c) 0 := fun t => by rw [new_gen]; exact Nat.le_refl _

set_option maxRecDepth 100000 in
set_option maxHeartbeats 6400000 in
theorem law_runs (a b c : Int) (ts : List Tp) (cv : Value) (calls : List Ac) (lv : Value) (picks : List Pk) (pv : Value) (z : Int) (w : World)
    (hr : Rd w cv 3 ts.length (flatT ts)) (hts : ∀ t ∈ ts, t.1.size ≤ 9223372036854775807) (hl : ActsAt w lv calls) (hp : Rd w pv 2 picks.length (flatK picks)) (hF : FieldsAt w) (hW : WaysAt w) :
    Calls Tryz.prog 5 #[playV a cv b c lv pv, .int .i64 z] w fun e w' => e = .returned (.bool true) ∧ Below w.heap.size w w' := by
  have HAw := hide (fun x (hb : Below w.heap.size w x) => awake_any x (hF.below hb) (hW.below hb))
  obtain ⟨A0, c0, rfl, h0c, h0m, -⟩ := id hr.shape
  obtain ⟨PA, pc, rfl, hpc, hpm, -⟩ := id hp.shape
  obtain ⟨W0, hW0⟩ : ∃ W0, W0 = w.alloc (.cells #[.int .i64 a, .slice A0 ts.length c0, .int .i64 b, .int .i64 c, lv, .slice PA picks.length pc] 54) := ⟨_, rfl⟩
  have hb0 := below_new w (.cells #[.int .i64 a, .slice A0 ts.length c0, .int .i64 b, .int .i64 c, lv, .slice PA picks.length pc] 54)
  have hbx := heap_alloc_new w (.cells #[.int .i64 a, .slice A0 ts.length c0, .int .i64 b, .int .i64 c, lv, .slice PA picks.length pc] 54)
  rw [← hW0] at hb0 hbx
  have hsz0 : w.heap.size < W0.heap.size := by rw [hW0]; simp
  have HBox := hide (fun x (hb : Below W0.heap.size W0 x) => (hb.block w.heap.size hsz0).trans hbx)
  have Hb0 := hide hb0
  have HSm := hide (small_any a b c ts.length c0 A0 calls lv PA picks.length pc W0 (hl.below hb0) (by omega) (by omega))
  have HHi := hide (fun x (hb : Below w.heap.size w x) (hsm : smallB calls picks.length ts.length = true) => history_any a b c ts (.slice A0 ts.length c0) calls lv picks (.slice PA picks.length pc) x (hr.below hb) hts (hl.below hb) (hp.below hb) (hF.below hb) (hW.below hb) (small_true hsm).1 (small_true hsm).2.1 (small_true hsm).2.2.2)
  have HCk := hide (fun x (hb : Below w.heap.size w x) => check_any a b c ts (.slice A0 ts.length c0) x (hr.below hb) hts)
  have HLe := hide (fun (l : List Em) (v : Value) (order : List Int) (vo : Value) x (hb : Below w.heap.size w x) (h : EvsAt x v l) (ho : Rd x vo 1 order.length (intL order)) (hll : l.length ≤ 100) (hol : order.length ≤ 1000) (hsm : ∀ e ∈ l, e.e.c.set.length ≤ 100 ∧ e.e.c.words.length ≤ 100) => legal_any a b c ts (.slice A0 ts.length c0) l v order vo x (hr.below hb) hts h ho (hF.below hb) (hW.below hb) hll hol hsm)
  obtain ⟨tn, htn⟩ : ∃ n, n = ts.length := ⟨_, rfl⟩
  obtain ⟨pn, hpn⟩ : ∃ n, n = picks.length := ⟨_, rfl⟩
  obtain ⟨LA, lc, hlv, -⟩ := id hl
  obtain ⟨cn, hcn⟩ : ∃ n, n = calls.length := ⟨_, rfl⟩
  subst hlv
  rw [← hcn, ← htn, ← hpn] at HSm HBox hW0
  rw [← hcn] at HHi
  rw [← htn, ← hpn] at HHi
  rw [← htn] at HCk HLe
  rw [← htn, ← hpn, ← hcn]
  have HW0 := hide hW0
  have Hcn := hide hcn
  clear hr hts hl hp hF hW htn hpn h0c h0m hpc hpm hcn hsz0 hb0 hbx hW0
  go_enter Tryz.func5, Tryz.ntmps5
  go_wp2_with fail
  rw [← HW0.out]
  refine HSm.out.mono ?_
  rintro e w1 ⟨rfl, hb1⟩
  have Hb1 := hide hb1
  have Hc1 := hide (below2 Hb0.out hb1)
  obtain ⟨sb, hsb⟩ : ∃ x, x = smallB calls pn tn := ⟨_, rfl⟩
  rw [← hsb] at HHi ⊢
  have Hsb := hide hsb
  clear hb1 hsb HSm
  have hx := HBox.out w1 Hb1.out
  obtain ⟨y0, y1, y2, y3, y4, y5, yf, yl⟩ := row6 hx
  clear hx
  by_cases hok : sb = true
  · obtain rfl := hok
    have HH2 := hide (HHi.out w1 Hc1.out rfl)
    clear HHi
    go_wp2_with fail
    refine HH2.out.mono ?_
    rintro e w2 ⟨hb2, ⟨hbad, rfl⟩ | ⟨hgood, v, l, t, i, n, s, rfl, hR, hEl, hEv⟩⟩
    · have Hc2 := hide (below2 Hc1.out hb2)
      have Hb2 := hide (below2 Hb1.out hb2)
      have Hbad := hide hbad
      have hx := HBox.out w2 Hb2.out
      obtain ⟨y0, y1, y2, y3, y4, y5, yf, yl⟩ := row6 hx
      clear hx
      clear hb2 hbad HH2
      have HC3 := hide (HCk.out w2 Hc2.out)
      have hf2 := checkS_code Hbad.out
      obtain ⟨⟨f1, f2⟩, hff⟩ : ∃ F, F = checkS a ts b c := ⟨_, rfl⟩
      rw [← hff] at HC3 hf2
      have b0 : (f2 != 0) = true := by simpa using hf2
      have hfc := field_code f1 f2
      clear hff hf2
      go_wp2_with fail
      refine HC3.out.mono ?_
      rintro e w4 ⟨rfl, hb4⟩
      have Hc4 := hide (below2 Hc2.out hb4)
      clear hb4
      go_wp2_with fail
      refine (HAw.out _ Hc4.out).mono ?_
      rintro e w9 ⟨rfl, hb9⟩
      have Hb9 := hide (below2 Hc4.out hb9)
      clear hb9
      go_wp2
      go_ret
      exact ⟨by simp, Hb9.out⟩
    · have Hc2 := hide (below2 Hc1.out hb2)
      have Hb2 := hide (below2 Hb1.out hb2)
      have Hgood := hide hgood
      have HR := hide hR
      have HEl := hide hEl
      have HEv := hide hEv
      obtain ⟨hll, hsml⟩ := hist_small hR hEl (small_true Hsb.out.symm).2.2.2
      have Hsml := hide hsml
      have hln : l.length ≤ 60 := by have := (small_true Hsb.out.symm).1; omega
      clear hb2 hgood hR hEl hEv hsml hll HH2
      have hG : GenLe (newS a ts b c) 0 := gen_new a ts b c
      have hI := runs_inv hG HR.out
      have HI := hide hI
      have ht := hI.times
      have HOd := hide (order_any l v w2 HEv.out (by omega))
      clear hG hI
      obtain ⟨ln, hle⟩ : ∃ k, k = l.length := ⟨_, rfl⟩
      have Hle := hide hle
      go_wp2_with fail
      refine HOd.out.mono ?_
      rintro e w3 ⟨vo, o, rfl, hord, -, hown3, hb3⟩
      rw [HEl.out, ht.check] at hord ⊢
      obtain rfl : o = s.o := (hord rfl).unique ht.order
      have Hc3 := hide (below2 Hc2.out hb3)
      have Hb3 := hide (below2 Hb2.out hb3)
      have HEv3 := hide (HEv.out.below hb3)
      rw [idxL_ints] at hown3
      have HOr3 := hide (show Rd w3 vo 1 s.o.length (intL (castL s.o)) from Rd.of_own hown3)
      have hcl : (castL s.o).length = s.o.length := by simp [castL]
      have hol : s.o.length ≤ 60 := by
        have := ht.order.perm.length_eq
        unfold tookL at this
        have h2 := List.length_filter_le (fun k => atOf s.l k != 0) (List.range s.l.length)
        have h3 : s.l.length = l.length := by rw [← HEl.out, evs_len]
        rw [List.length_range] at h2
        omega
      have HL3 := hide (HLe.out l v (castL s.o) vo w3 Hc3.out HEv3.out (by rw [hcl]; exact HOr3.out) (by omega) (by omega) Hsml.out)
      rw [HEl.out, runs_legal Hgood.out HI.out] at HL3
      have HCh := hide (fun wq (hb : Below w3.heap.size w3 wq) => lincheck_any l v wq (HEv3.out.below hb))
      rw [HEl.out, ht.check] at HCh
      have Hti := hide ht
      have hx := HBox.out w3 Hb3.out
      obtain ⟨y0, y1, y2, y3, y4, y5, yf, yl⟩ := row6 hx
      clear hx
      clear hown3 hb3 hord HOd ht hcl
      go_wp2_with fail
      refine HL3.out.mono ?_
      rintro e w4 ⟨rfl, hb4⟩
      have Hc4 := hide (below2 Hc3.out hb4)
      have Hb4 := hide (below2 Hb3.out hb4)
      have HEv4 := hide (HEv3.out.below hb4)
      have HOr4 := hide (HOr3.out.below hb4)
      have HC4 := hide (HCh.out w4 hb4)
      clear hb4 HL3 HCh
      go_wp2_with fail
      refine HC4.out.mono ?_
      rintro e w5 ⟨rfl, hb5⟩
      have Hc5 := hide (below2 Hc4.out hb5)
      have Hb5 := hide (below2 Hb4.out hb5)
      have HEv5 := hide (HEv4.out.below hb5)
      have HOr5 := hide (HOr4.out.below hb5)
      obtain ⟨on, hon⟩ : ∃ k, k = s.o.length := ⟨_, rfl⟩
      rw [← hon] at HOr5 hol
      obtain ⟨AM, cm, rfl, hmc, hmm, -⟩ := id HEv.out.1.shape
      rw [← hle] at HEv5 hln hmc ⊢
      obtain ⟨AO, co, rfl, -⟩ := id HOr5.out.shape
      have Hon := hide hon
      clear hb5 HC4 hle hon
      go_wp2_with fail
      go_loopw [11] (fun vi wr => ∃ i : Nat, vi = .int .i64 (i : Int) ∧ 1 ≤ i ∧ ∃ qd, wr = w5.drewN qd) (fun vi _ => on - (intOf vi).toNat)
      case atStart => exact ⟨1, by simp, Nat.le_refl _, 0, rfl⟩
      case round =>
        obtain ⟨i', rfl, hi1, qd, rfl⟩ := hrel
        obtain ⟨j, hij⟩ : ∃ j, i' = j + 1 := ⟨i' - 1, by omega⟩
        have hbq := below_drewN (Below.refl w5.heap.size w5) qd
        by_cases hlt : i' < on
        · have hin : (i' : Int) < (on : Int) := by omega
          have hin2 : (j : Int) < (on : Int) := by omega
          have hwj : IntKind.i64.wrap ((i' : Int) - 1) = (j : Int) := by rw [IntKind.wrap_i64]; omega
          obtain ⟨k0, hk0⟩ : ∃ x, s.o[j]? = some x := ⟨s.o[j]'(by have := Hon.out; omega), List.getElem?_eq_getElem _⟩
          obtain ⟨k1, hk1⟩ : ∃ x, s.o[j + 1]? = some x := ⟨s.o[j + 1]'(by have := Hon.out; omega), List.getElem?_eq_getElem _⟩
          obtain ⟨e0, he0, -⟩ := Hti.out.lt (List.mem_of_getElem? hk0)
          obtain ⟨e1, he1, -⟩ := Hti.out.lt (List.mem_of_getElem? hk1)
          have hup := List.pairwise_iff_getElem.1 Hti.out.up j (j + 1) (List.getElem?_eq_some_iff.1 hk0).1 (List.getElem?_eq_some_iff.1 hk1).1 (by omega)
          rw [(List.getElem?_eq_some_iff.1 hk0).2, (List.getElem?_eq_some_iff.1 hk1).2, atOf_some he0, atOf_some he1] at hup
          rw [← HEl.out] at he0 he1
          obtain ⟨x0, hx0, hxe0⟩ : ∃ x, l[k0]? = some x ∧ x.e = e0 := by
            unfold evsOf at he0
            rw [List.getElem?_map, Option.map_eq_some_iff] at he0
            exact he0
          obtain ⟨x1, hx1, hxe1⟩ : ∃ x, l[k1]? = some x ∧ x.e = e1 := by
            unfold evsOf at he1
            rw [List.getElem?_map, Option.map_eq_some_iff] at he1
            exact he1
          subst hxe0 hxe1
          have hkl0 : (k0 : Int) < (ln : Int) := by have := (List.getElem?_eq_some_iff.1 hx0).1; have := Hle.out; omega
          have hkl1 : (k1 : Int) < (ln : Int) := by have := (List.getElem?_eq_some_iff.1 hx1).1; have := Hle.out; omega
          obtain ⟨ob, oo, _, hv, -, -, hob, hoc⟩ := HOr5.out.open_ (by omega)
          cases hv
          have s0 := hoc j (.int .i64 k0) (by simp [castL, hk0])
          have s1 := hoc (j + 1) (.int .i64 k1) (by simp [castL, hk1])
          rw [← hij] at s1
          have Hij := hide hij
          obtain ⟨mb, mo, rfl, hmb, hma⟩ := EvsAt.open_n HEv5.out Hle.out (by omega)
          have t0 := (hma k0 x0 hx0).c25
          have t1 := (hma k1 x1 hx1).c25
          have hno : ¬ x1.e.at' ≤ x0.e.at' := by omega
          clear hoc hma hx0 hx1 he0 he1 hk0 hk1 hup hij
          have d1 : decide (ln ≤ k0) = false := by simp; omega
          have d2 : decide (ln ≤ k1) = false := by simp; omega
          have d3 : decide ((k0 : Int) < 0) = false := by simp
          have d4 : decide ((k1 : Int) < 0) = false := by simp
          have d5 : decide (x1.e.at' ≤ x0.e.at') = false := by simp; omega
          go_wp2
          go_quiet (fail)
          go_wp2
          go_roundw
          case rel => exact ⟨i' + 1, by go_num, by omega, qd + nq, rfl⟩
          case measure => simp [intOf]; omega
        · have hno : ¬ (i' : Int) < (on : Int) := by omega
          clear hij
          have Hb6 := hide (below2 Hb5.out hbq)
          have Hc6 := hide (below2 Hc5.out hbq)
          have HEv6 := hide (HEv5.out.below hbq)
          have HOr6 := hide (HOr5.out.below hbq)
          obtain ⟨w6, hw6⟩ : ∃ x, x = w5.drewN qd := ⟨_, rfl⟩
          rw [← hw6] at Hb6 Hc6 HEv6 HOr6 ⊢
          clear hw6 hbq
          by_cases hz0 : z < 0
          · go_wp2_with fail
            refine (HAw.out _ Hc6.out).mono ?_
            rintro e w9 ⟨rfl, hb9⟩
            have Hb9 := hide (below2 Hc6.out hb9)
            clear hb9
            go_wp2
            go_ret
            exact ⟨by simp, Hb9.out⟩
          by_cases hzl : (ln : Int) ≤ z
          · have hz1 : z ≥ (ln : Int) := hzl
            go_wp2_with fail
            refine (HAw.out _ Hc6.out).mono ?_
            rintro e w9 ⟨rfl, hb9⟩
            have Hb9 := hide (below2 Hc6.out hb9)
            clear hb9
            go_wp2
            go_ret
            exact ⟨by simp, Hb9.out⟩
          obtain ⟨K, rfl⟩ : ∃ K : Nat, z = K := ⟨z.toNat, by omega⟩
          have hKl : (K : Int) < (ln : Int) := by omega
          obtain ⟨e, hE⟩ : ∃ e, l[K]? = some e := ⟨l[K]'(by have := Hle.out; omega), List.getElem?_eq_getElem _⟩
          obtain ⟨mb, mo, rfl, hmb, hma⟩ := EvsAt.open_n HEv6.out Hle.out (by omega)
          have t0 := (hma K e hE).c26
          have HE := hide hE
          clear hma hE
          by_cases he0 : e.e.to' = 0
          · have b0 : (e.e.to' == 0) = true := by simpa using he0
            go_wp2_with fail
            refine (HAw.out _ Hc6.out).mono ?_
            rintro e w9 ⟨rfl, hb9⟩
            have Hb9 := hide (below2 Hc6.out hb9)
            clear hb9
            go_wp2
            go_ret
            exact ⟨by simp, Hb9.out⟩
          · have b0 : (e.e.to' == 0) = false := by simpa using he0
            have hsz6 := Hc6.out.size
            obtain ⟨v7, w7, hap, ho7, hb7, -⟩ := append_evs (w6.alloc (.cells #[] 38)) w6.heap.size (.slice (some ⟨w6.heap.size, 0, none⟩) 0 0) 0 [] (World.ownsRow_made w6 #[] 0 (Nat.le_refl _) (by decide) rfl) (.slice (some ⟨mb, mo, none⟩) ln cm) ln l (show Rd _ _ 27 ln (flatE l) by have h := HEv6.out.1.alloc (.cells #[] 38); rw [← Hle.out] at h; exact h) (by omega) (by simp)
            rw [Nat.zero_add, List.nil_append] at ho7
            have hb67 := (below_new w6 (.cells #[] 38)).trans hb7
            obtain ⟨g, cg, rfl, hlg, hcg, hg6, hg7⟩ := own_open ho7 (by omega)
            have Ho7 := hide ho7
            have Hb67 := hide hb67
            have k15 := (show w7.cell? ⟨g, K * 27 + 12 + 3, none⟩ = some (.int .i64 e.e.a.count) by
              have h := ho7.cellAt (K * 27 + 15) (by omega)
              rw [flatE_at l K e 15 _ HE.out rfl] at h
              exact h)
            have hfz := fun j => ho7.frozenAt j
            have hKc : (K : Int) < (cg : Int) := by omega
            have hKg : (K : Int) < (ln : Int) := by omega
            have hcnt : e.e.a.count ≤ 60 := by
              have h := (HI.out.clean K e.e (by rw [← HEl.out]; exact evs_at HE.out)).2
              have := Hon.out
              omega
            have hcI : (e.e.a.count : Int) ≤ 60 := by omega
            obtain ⟨x8, hx8⟩ : ∃ x : Int, x = (e.e.a.count : Int) + 1 := ⟨_, rfl⟩
            obtain ⟨e8, he8⟩ : ∃ y : Em, y = { e with e := more e.e } := ⟨_, rfl⟩
            obtain ⟨ho8, hg8⟩ := row_put (e' := e8) ho7 HE.out 15 (.int .i64 x8) (by decide) (by rw [he8, hx8]; rfl)
            have hb78 := grown_below (B := W0.heap.size) hg8 (fun q hq => by cases hq; exact Nat.le_trans Hb6.out.size hg6) (Nat.le_trans Hb6.out.size hb67.size)
            have hc78 := grown_below (B := w.heap.size) hg8 (fun q hq => by cases hq; exact Nat.le_trans Hc6.out.size hg6) (Nat.le_trans Hc6.out.size hb67.size)
            have hd78 := grown_below (B := w6.heap.size) hg8 (fun q hq => by cases hq; exact hg6) hb67.size
            have hev : ∀ y ∈ l.set K e8, EmRd w6 y ∧ y.e.c.set.length ≤ 100 ∧ y.e.c.words.length ≤ 100 := fun y hy => by
              rcases List.mem_or_eq_of_mem_set hy with hy | hy
              · exact ⟨HEv6.out.2 y hy, Hsml.out y hy⟩
              · have hm := List.mem_of_getElem? HE.out
                have h := HEv6.out.2 e hm
                rw [hy, he8]
                exact ⟨⟨h.set, h.words, h.gens, h.ans⟩, Hsml.out e hm⟩
            have hevs : evsOf (l.set K e8) = s.l.set K (more e.e) := by rw [← HEl.out, evsOf, List.map_set, he8]
            have hlen8 : (l.set K e8).length = ln := by rw [List.length_set]; exact Hle.out.symm
            have HL8 := hide (HLe.out (l.set K e8) (.slice (some ⟨g, 0, none⟩) ln cg) (castL s.o) (.slice AO on co) (w7.setCell ⟨g, K * 27 + 15, none⟩ (.int .i64 x8)) (below2 Hc6.out (hb67.trans hd78))
              ⟨by rw [hlen8]; exact Rd.of_own ho8, fun y hy => (hev y hy).1.below (hb67.trans hd78)⟩
              (by have h := HOr6.out.below (hb67.trans hd78); rw [Hon.out] at h; have hcl : (castL s.o).length = s.o.length := by simp [castL]
                  rw [hcl, Hon.out]; exact h) (by omega) (by have hcl : (castL s.o).length = s.o.length := by simp [castL]
                                                             have := Hon.out; omega) (fun y hy => (hev y hy).2))
            rw [hevs, runs_turned Hgood.out HI.out (by rw [← HEl.out]; exact evs_at HE.out) he0] at HL8
            have hx := HBox.out (w7.setCell ⟨g, K * 27 + 15, none⟩ (.int .i64 x8)) ((below2 Hb6.out hb67).trans hb78)
            have Hc8 := hide (below2 Hc6.out (hb67.trans hd78))
            obtain ⟨z0, z1, z2, z3, -, -, zf, zl⟩ := row6 hx
            subst hx8
            clear hx he8 hev hevs ho8 hg8 hb78 hc78 hd78 ho7 hb67 hb7
            go_wp2_with (at_builtin; refine Go.Lib.wpList_append_run_sl _ rfl _ _ 24 rfl _ _ rfl rfl hap ?_)
            refine HL8.out.mono ?_
            rintro e9 w9 ⟨rfl, hb9⟩
            have Hc9 := hide (below2 Hc8.out hb9)
            clear hb9 HL8
            go_wp2_with fail
            refine (HAw.out _ Hc9.out).mono ?_
            rintro e w9 ⟨rfl, hb9⟩
            have Hb9 := hide (below2 Hc9.out hb9)
            clear hb9
            go_wp2
            go_ret
            exact ⟨by simp, Hb9.out⟩
  · obtain rfl : sb = false := by simpa using hok
    go_wp2_with fail
    refine (HAw.out _ Hc1.out).mono ?_
    rintro e w9 ⟨rfl, hb9⟩
    have Hb9 := hide (below2 Hc1.out hb9)
    clear hb9
    go_wp2
    go_ret
    exact ⟨by simp, Hb9.out⟩

end Go.Proofs.YtkkflnmfghegnaaGreatDoor
