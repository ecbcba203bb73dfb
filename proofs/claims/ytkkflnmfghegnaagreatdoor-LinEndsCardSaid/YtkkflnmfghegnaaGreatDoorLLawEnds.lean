/-
  The walk of the law LinEnds. Conditions: names that fit memory, numbers that an int holds; the calls' fields and the ways between modes in memory.
-/
import Derived.Test.YtkkflnmfghegnaaGreatDoorLLawLegal
import Derived.Test.YtkkflnmfghegnaaGreatDoorLLegalP
namespace Go.Proofs.YtkkflnmfghegnaaGreatDoor
open Go.RowKit

/-- What is left of the first so many. -/
def leftL (l : List Ev) (order : List Int) (i : Nat) : List Int := (order.take i).filter fun k => !failK l k
theorem left_in {l : List Ev} {order : List Int} {i k : Nat} {e : Ev} (hk : order[i]? = some (k : Int)) (he : l[k]? = some e) (hf : failedB e = false) : leftL l order (i + 1) = leftL l order i ++ [(k : Int)] := by
  unfold leftL
  rw [List.take_add_one, hk, List.filter_append]
  have : failK l (k : Int) = false := by unfold failK; rw [Int.toNat_natCast, he]; exact hf
  simp [this]
theorem left_out {l : List Ev} {order : List Int} {i k : Nat} {e : Ev} (hk : order[i]? = some (k : Int)) (he : l[k]? = some e) (hf : failedB e = true) : leftL l order (i + 1) = leftL l order i := by
  unfold leftL
  rw [List.take_add_one, hk, List.filter_append]
  have : failK l (k : Int) = true := by unfold failK; rw [Int.toNat_natCast, he]; exact hf
  simp [this]
theorem left_len (l : List Ev) (order : List Int) (i : Nat) : (leftL l order i).length ≤ order.length := by
  unfold leftL
  refine Nat.le_trans (List.length_filter_le _ _) ?_
  rw [List.length_take]
  omega

set_option maxRecDepth 100000 in
set_option maxHeartbeats 6400000 in
theorem law_ends (a b c : Int) (ts : List Tp) (cv : Value) (calls : List Ac) (lv : Value) (picks : List Pk) (pv : Value) (edits : List Ed) (ve : Value) (swaps : List Int) (vs : Value) (w : World)
    (hr : Rd w cv 3 ts.length (flatT ts)) (hts : ∀ t ∈ ts, t.1.size ≤ 9223372036854775807) (hl : ActsAt w lv calls) (hp : Rd w pv 2 picks.length (flatK picks)) (he : Rd w ve 3 edits.length (edits.flatMap edC)) (hs : Rd w vs 1 swaps.length (intL swaps)) (hsw : ∀ x ∈ swaps, x ≤ 9223372036854775807) (hF : FieldsAt w) (hW : WaysAt w) :
    Calls Tryz.prog 6 #[playV a cv b c lv pv, ve, vs] w fun e w' => e = .returned (.bool true) ∧ Below w.heap.size w w' := by
  have HAw := hide (fun x (hb : Below w.heap.size w x) => awake_any x (hF.below hb) (hW.below hb))
  obtain ⟨A0, c0, rfl, h0c, h0m, -⟩ := id hr.shape
  obtain ⟨PA, pc, rfl, hpc, hpm, -⟩ := id hp.shape
  obtain ⟨EA, ec, rfl, -⟩ := id he.shape
  obtain ⟨SA, sc, rfl, -⟩ := id hs.shape
  obtain ⟨W0, hW0⟩ : ∃ W0, W0 = w.alloc (.cells #[.int .i64 a, .slice A0 ts.length c0, .int .i64 b, .int .i64 c, lv, .slice PA picks.length pc] 54) := ⟨_, rfl⟩
  have hb0 := below_new w (.cells #[.int .i64 a, .slice A0 ts.length c0, .int .i64 b, .int .i64 c, lv, .slice PA picks.length pc] 54)
  have hbx := heap_alloc_new w (.cells #[.int .i64 a, .slice A0 ts.length c0, .int .i64 b, .int .i64 c, lv, .slice PA picks.length pc] 54)
  rw [← hW0] at hb0 hbx
  have hsz0 : w.heap.size < W0.heap.size := by rw [hW0]; simp
  have HBox := hide (fun x (hb : Below W0.heap.size W0 x) => (hb.block w.heap.size hsz0).trans hbx)
  have Hb0 := hide hb0
  have HSm := hide (small_any a b c ts.length c0 A0 calls lv PA picks.length pc W0 (hl.below hb0) (by omega) (by omega))
  have HHi := hide (fun x (hb : Below w.heap.size w x) (hsm : smallB calls picks.length ts.length = true) => history_any a b c ts (.slice A0 ts.length c0) calls lv picks (.slice PA picks.length pc) x (hr.below hb) hts (hl.below hb) (hp.below hb) (hF.below hb) (hW.below hb) (small_true hsm).1 (small_true hsm).2.1 (small_true hsm).2.2.2)
  have HCk := hide (fun x (hb : Below w.heap.size w x) => check_any a b c ts (.slice A0 ts.length c0) x (hr.below hb) hts)
  have HLe := hide (fun (l : List Em) (v : Value) (order : List Int) (vo : Value) x (hb : Below w.heap.size w x) (h : EvsAt x v l) (ho : Rd x vo 1 order.length (intL order)) (hll : l.length ≤ 100) (hol : order.length ≤ 1000) (hsm : ∀ e ∈ l, e.e.c.set.length ≤ 100 ∧ e.e.c.words.length ≤ 100) => legal_any a b c ts (.slice A0 ts.length c0) l v order vo x (hr.below hb) hts h ho (hF.below hb) (hW.below hb) hll hol hsm)
  obtain ⟨en, hen⟩ : ∃ n, n = edits.length := ⟨_, rfl⟩
  obtain ⟨sn, hsn⟩ : ∃ n, n = swaps.length := ⟨_, rfl⟩
  obtain ⟨tn, htn⟩ : ∃ n, n = ts.length := ⟨_, rfl⟩
  obtain ⟨pn, hpn⟩ : ∃ n, n = picks.length := ⟨_, rfl⟩
  obtain ⟨LA, lc, hlv, -⟩ := id hl
  obtain ⟨cn, hcn⟩ : ∃ n, n = calls.length := ⟨_, rfl⟩
  subst hlv
  rw [← hen] at he
  rw [← hsn] at hs
  rw [← hcn, ← htn, ← hpn] at HSm HBox hW0
  rw [← hcn] at HHi
  rw [← htn, ← hpn] at HHi
  rw [← htn] at HCk HLe
  rw [← hen, ← hsn, ← htn, ← hpn, ← hcn]
  have He := hide he
  have Hen := hide hen
  have Hs := hide hs
  have Hsw := hide hsw
  have Hsn := hide hsn
  have HW0 := hide hW0
  have Hcn := hide hcn
  clear hr hts hl hp hF hW htn hpn h0c h0m hpc hpm hcn hsz0 hb0 hbx hW0 he hen hs hsw hsn
  go_enter Tryz.func6, Tryz.ntmps6
  go_wp2_with fail
  rw [← HW0.out]
  refine HSm.out.mono ?_
  rintro e w1 ⟨rfl, hb1⟩
  have Hb1 := hide hb1
  have Hc1 := hide (below2 Hb0.out hb1)
  obtain ⟨sb, hsb⟩ : ∃ x, x = smallB calls pn tn := ⟨_, rfl⟩
  rw [← hsb] at HHi ⊢
  have Hsb := hide hsb
  clear hb1 hsb HSm
  have hx := HBox.out w1 Hb1.out
  obtain ⟨y0, y1, y2, y3, y4, y5, yf, yl⟩ := row6 hx
  clear hx
  by_cases hok : sb = true ∧ en ≤ 20 ∧ sn ≤ 20
  · obtain ⟨rfl, hk0, hk1⟩ := hok
    have hi0 : ¬ (en : Int) > 20 := by omega
    have hi1 : ¬ (sn : Int) > 20 := by omega
    have HH2 := hide (HHi.out w1 Hc1.out rfl)
    clear HHi
    go_wp2_with fail
    refine HH2.out.mono ?_
    rintro e w2 ⟨hb2, ⟨hbad, rfl⟩ | ⟨hgood, v, l, t, i, n, s, rfl, hR, hEl, hEv⟩⟩
    · have Hc2 := hide (below2 Hc1.out hb2)
      have Hb2 := hide (below2 Hb1.out hb2)
      have Hbad := hide hbad
      have hx := HBox.out w2 Hb2.out
      obtain ⟨y0, y1, y2, y3, y4, y5, yf, yl⟩ := row6 hx
      clear hx
      clear hb2 hbad HH2
      have HC3 := hide (HCk.out w2 Hc2.out)
      have hf2 := checkS_code Hbad.out
      obtain ⟨⟨f1, f2⟩, hff⟩ : ∃ F, F = checkS a ts b c := ⟨_, rfl⟩
      rw [← hff] at HC3 hf2
      have b0 : (f2 != 0) = true := by simpa using hf2
      have hfc := field_code f1 f2
      clear hff hf2
      go_wp2_with fail
      refine HC3.out.mono ?_
      rintro e w4 ⟨rfl, hb4⟩
      have Hc4 := hide (below2 Hc2.out hb4)
      clear hb4
      go_wp2_with fail
      refine (HAw.out _ Hc4.out).mono ?_
      rintro e w9 ⟨rfl, hb9⟩
      have Hb9 := hide (below2 Hc4.out hb9)
      clear hb9
      go_wp2
      go_ret
      exact ⟨by simp, Hb9.out⟩
    · have Hc2 := hide (below2 Hc1.out hb2)
      have Hb2 := hide (below2 Hb1.out hb2)
      have Hgood := hide hgood
      have HR := hide hR
      have HEl := hide hEl
      have HEv := hide hEv
      obtain ⟨hll, hsml⟩ := hist_small hR hEl (small_true Hsb.out.symm).2.2.2
      have Hsml := hide hsml
      have hln : l.length ≤ 60 := by have := (small_true Hsb.out.symm).1; omega
      clear hb2 hgood hR hEl hEv hsml hll HH2
      have HEd := hide (edited_any l v edits (.slice EA en ec) w2 HEv.out (by rw [← Hen.out]; exact He.out.below Hc2.out) (by omega) (by rw [← Hen.out]; omega) Hsml.out)
      go_wp2_with fail
      refine HEd.out.mono ?_
      rintro e w3 ⟨vo, m, rfl, hml, hEv3, hsm3, hb3⟩
      have Hc3 := hide (below2 Hc2.out hb3)
      have Hb3 := hide (below2 Hb2.out hb3)
      have HEv3 := hide hEv3
      have Hsm3 := hide hsm3
      have hml' : m.length ≤ 60 := by omega
      clear hb3 hEv3 hsm3 HEd
      have HT3 := hide (times_any m vo w3 HEv3.out (by omega))
      go_wp2_with fail
      refine HT3.out.mono ?_
      rintro e w4 ⟨vt, rfl, hown4, hb4⟩
      have Hc4 := hide (below2 Hc3.out hb4)
      have Hb4 := hide (below2 Hb3.out hb4)
      have hlt : ((evsOf m).map tmOf).length = m.length := by rw [List.length_map, evs_len]
      have HO4 := hide (reforder_any ((evsOf m).map tmOf) vt w4 (by rw [hlt]; exact Rd.of_own hown4) (by omega))
      have HEv4 := hide (HEv3.out.below hb4)
      clear hown4 hb4 HT3
      go_wp2_with fail
      refine HO4.out.mono ?_
      rintro e w5 ⟨vr, out, last, rfl, hto, -, hown5, hb5⟩
      have hol : out.length ≤ 60 := by have := hto.len; rw [evsT_len] at this; omega
      have Hc5 := hide (below2 Hc4.out hb5)
      have Hb5 := hide (below2 Hb4.out hb5)
      have HEv5 := hide (HEv4.out.below hb5)
      rw [idxL_ints] at hown5
      have hcl : (out.map fun k : Nat => (k : Int)).length = out.length := by simp
      have HS5 := hide (swapped_any (out.map fun k : Nat => (k : Int)) swaps vr (.slice SA sn sc) w5 (by rw [hcl]; exact Rd.of_own hown5) (by rw [← Hsn.out]; exact Hs.out.below Hc5.out) (by omega) (by rw [← Hsn.out]; omega) Hsw.out)
      clear hto hown5 hb5 HO4
      go_wp2_with fail
      refine HS5.out.mono ?_
      rintro e w6 ⟨vd, order, rfl, hord, hown6, hb6⟩
      have hor : order.length ≤ 80 := by have := Hsn.out; omega
      have Hc6 := hide (below2 Hc5.out hb6)
      have Hb6 := hide (below2 Hb5.out hb6)
      have HEv6 := hide (HEv5.out.below hb6)
      have HOr := hide (Rd.of_own hown6)
      have HL6 := hide (HLe.out m vo order vd w6 Hc6.out HEv6.out HOr.out (by omega) (by omega) Hsm3.out)
      have hx := HBox.out w6 Hb6.out
      obtain ⟨y0, y1, y2, y3, y4, y5, yf, yl⟩ := row6 hx
      clear hx
      clear hown6 hb6 HS5 hord
      obtain ⟨⟨R1, R2⟩, hRR⟩ : ∃ R, R = legalC a ts b c (evsOf m) order := ⟨_, rfl⟩
      rw [← hRR] at HL6
      have HRR := hide hRR
      clear hRR
      go_wp2_with fail
      refine HL6.out.mono ?_
      rintro e w7 ⟨rfl, hb7⟩
      have Hc7 := hide (below2 Hc6.out hb7)
      have Hb7 := hide (below2 Hb6.out hb7)
      have HEv7 := hide (HEv6.out.below hb7)
      have HOr7 := hide (HOr.out.below hb7)
      clear hb7 HL6
      by_cases h2 : R2 = 0
      · subst h2
        obtain ⟨hck, hce, hlg⟩ := (legalC_iff a ts b c (evsOf m) order).1 (by rw [← HRR.out])
        have Hck := hide hck
        have Hce := hide hce
        have Hlg := hide hlg
        obtain ⟨AM, cm, rfl, -⟩ := id HEv7.out.1.shape
        obtain ⟨AO, co, rfl, -⟩ := id HOr7.out.shape
        obtain ⟨mn, hmn⟩ : ∃ k, k = m.length := ⟨_, rfl⟩
        obtain ⟨on, hon⟩ : ∃ k, k = order.length := ⟨_, rfl⟩
        rw [← hmn] at HEv7 hml'
        rw [← hon] at HOr7 hor
        simp only [← hmn, ← hon]
        have Hmn := hide hmn
        have Hon := hide hon
        clear hck hce hlg hmn hon
        go_wp2_with fail
        have hsz7 := Hc7.out.size
        have Hw8 := hide (below2 Hc7.out (below_new w7 (.cells #[] 3)))
        have Hw78 := hide (below_new w7 (.cells #[] 3))
        have Ho8 := hide (World.ownsRow_made (base := w7.heap.size) (e := 3) (size := 1) w7 #[] 0 (Nat.le_refl _) (by decide) rfl)
        go_loopw [13, 14] (fun vl vi wr => ∃ (i q : Nat), i ≤ on ∧ vi = .int .i64 i ∧ Hid (q = (leftL (evsOf m) order i).length) ∧ Hid (wr.ownsRow w7.heap.size 3 1 vl q (intL (leftL (evsOf m) order i))) ∧ Hid (Below w7.heap.size w7 wr)) (fun _ vi _ => on - (intOf vi).toNat)
        case atStart => exact ⟨0, 0, Nat.zero_le _, rfl, hide rfl, Ho8, Hw78⟩
        case round =>
          obtain ⟨i, q, hi, rfl, Hq, Hown, Hbel⟩ := hrel
          by_cases hlt : i < on
          · have hin : (i : Int) < (on : Int) := by omega
            obtain ⟨x, hx⟩ : ∃ x, order[i]? = some x := ⟨order[i]'(by have := Hon.out; omega), List.getElem?_eq_getElem _⟩
            obtain ⟨hx0, hxm⟩ := Hlg.out.whole.lt x (List.mem_of_getElem? hx)
            rw [evs_len, ← Hmn.out] at hxm
            obtain ⟨k, rfl⟩ : ∃ k : Nat, x = k := ⟨x.toNat, by omega⟩
            have hkm : (k : Int) < (mn : Int) := by omega
            obtain ⟨e, hE⟩ : ∃ e, m[k]? = some e := ⟨m[k]'(by have := Hmn.out; omega), List.getElem?_eq_getElem _⟩
            obtain ⟨ob, oo, _, hv, -, -, hob, hoc⟩ := (HOr7.out.below Hbel.out).open_ (by omega)
            cases hv
            have s0 := hoc i (.int .i64 k) (by simp [intL, hx])
            obtain ⟨mb, mo, rfl, hmb, hma⟩ := EvsAt.open_n (HEv7.out.below Hbel.out) Hmn.out (by omega)
            have hea := hma k e hE
            have L1 := hea.load
            obtain ⟨u, hu⟩ : ∃ u, u = failedB e.e := ⟨_, rfl⟩
            have hfa := fun wq => failed19_any e wq
            rw [← hu] at hfa
            have HFa := hide hfa
            have Hu := hide hu
            have Hx := hide hx
            have HE := hide (evs_at hE)
            clear hoc hma hea hu hfa hx hE hx0 hxm
            go_wp2_with fail
            refine (HFa.out _).mono ?_
            rintro e9 w8 ⟨rfl, hb8⟩
            have Hbel8 := hide (Hbel.out.trans (hb8.mono Hbel.out.size))
            have Hown8 := hide (own_keepAt Hown.out fun q hq => hb8.block q (Hown.out.lt q hq).2)
            have hob8 := Nat.lt_of_lt_of_le hob hb8.size
            have s8 := (hb8.cell (p := ⟨ob, oo + i, none⟩) hob).trans s0
            clear L1 hb8 HFa s0
            by_cases hut : u = true
            · subst hut
              go_wp2
              go_roundw
              case rel => exact ⟨i + 1, q, by omega, by go_num, hide (by rw [left_out Hx.out HE.out Hu.out.symm]; exact Hq.out), hide (by rw [left_out Hx.out HE.out Hu.out.symm]; exact Hown8.out), Hbel8⟩
              case measure => simp [intOf]; omega
            · obtain rfl : u = false := by simpa using hut
              have hql : q ≤ 80 := by have := left_len (evsOf m) order i; rw [← Hq.out, ← Hon.out] at this; omega
              obtain ⟨v9, w9, hap, ho9, hb9, -⟩ := append_ints (w8.alloc (.cells #[.int .i64 (k : Int)] 3)) w7.heap.size u13 q (leftL (evsOf m) order i) (Hown8.out.alloc _) _ 1 [(k : Int)] (rd_one w8 _ _) (by omega) (by have := Hbel8.out.size; simp; omega)
              have Hb9 := hide ((Hbel8.out.alloc Hbel8.out.size (.cells #[.int .i64 (k : Int)] 3)).trans hb9)
              have Ho9 := hide ho9
              clear hb9 ho9
              go_wp2_with (at_builtin; refine Go.Lib.wpList_append_run_sl _ rfl _ _ 27 rfl _ _ rfl rfl hap ?_)
              go_roundw
              case rel => exact ⟨i + 1, q + 1, by omega, by go_num, hide (by rw [left_in Hx.out HE.out Hu.out.symm, List.length_append, ← Hq.out]; rfl), hide (by rw [left_in Hx.out HE.out Hu.out.symm]; exact Ho9.out), Hb9⟩
              case measure => simp [intOf]; omega
          · have hio : i = on := by omega
            subst hio
            have hql : q ≤ 80 := by have := left_len (evsOf m) order i; rw [← Hq.out, ← Hon.out] at this; omega
            have hLl : leftL (evsOf m) order i = order.filter fun k => !failK (evsOf m) k := by unfold leftL; rw [List.take_of_length_le (by rw [← Hon.out]; exact Nat.le_refl _)]
            have Hc8 := hide (below2 Hc7.out Hbel.out)
            have Hb8 := hide (below2 Hb7.out Hbel.out)
            have hE8 := HEv7.out.below Hbel.out
            have HEv8 := hide hE8
            rw [Hmn.out] at hE8
            have HL8 := hide (HLe.out m _ (leftL (evsOf m) order i) u13 wr Hc8.out hE8 (by rw [← Hq.out]; exact Rd.of_own Hown.out) (by have := Hmn.out; omega) (by rw [← Hq.out]; omega) Hsm3.out)
            have hz := (legalC_iff a ts b c (evsOf m) (leftL (evsOf m) order i)).2 ⟨Hck.out, Hce.out, by rw [hLl]; exact Hlg.out.left⟩
            obtain ⟨⟨T1, T2⟩, hTT⟩ : ∃ R, R = legalC a ts b c (evsOf m) (leftL (evsOf m) order i) := ⟨_, rfl⟩
            rw [← hTT] at HL8 hz
            obtain rfl : T2 = 0 := hz
            rw [← Hmn.out] at HL8
            have hx := HBox.out wr Hb8.out
            obtain ⟨y0, y1, y2, y3, y4, y5, yf, yl⟩ := row6 hx
            clear hx
            clear hE8 hLl hTT
            go_wp2_with fail
            refine HL8.out.mono ?_
            rintro e9 w9 ⟨rfl, hb9⟩
            have Hc9 := hide (below2 Hc8.out hb9)
            have Hb9 := hide (below2 Hb8.out hb9)
            have HEv9 := hide (HEv8.out.below hb9)
            have HOr9 := hide ((HOr7.out.below Hbel.out).below hb9)
            have hx := HBox.out w9 Hb9.out
            obtain ⟨y0, y1, y2, y3, y4, y5, yf, yl⟩ := row6 hx
            clear hx
            clear hb9 HL8
            by_cases ho0 : i = 0
            · subst ho0
              go_wp2_with fail
              refine (HAw.out _ Hc9.out).mono ?_
              rintro e w9 ⟨rfl, hb9⟩
              have Hb9 := hide (below2 Hc9.out hb9)
              clear hb9
              go_wp2
              go_ret
              exact ⟨by simp, Hb9.out⟩
            · obtain ⟨d, rfl⟩ : ∃ d, i = d + 1 := ⟨i - 1, by omega⟩
              obtain ⟨x, hx⟩ : ∃ x, order[d]? = some x := ⟨order[d]'(by have := Hon.out; omega), List.getElem?_eq_getElem _⟩
              obtain ⟨hx0, hxm⟩ := Hlg.out.whole.lt x (List.mem_of_getElem? hx)
              rw [evs_len, ← Hmn.out] at hxm
              obtain ⟨k, rfl⟩ : ∃ k : Nat, x = k := ⟨x.toNat, by omega⟩
              have hkm : (k : Int) < (mn : Int) := by omega
              obtain ⟨e, hE⟩ : ∃ e, m[k]? = some e := ⟨m[k]'(by have := Hmn.out; omega), List.getElem?_eq_getElem _⟩
              obtain ⟨ob, oo, co', hv, hnc, hcm, hob, hoc⟩ := HOr9.out.open_ (by omega)
              cases hv
              have s0 := hoc d (.int .i64 k) (by simp [intL, hx])
              obtain ⟨mb, mo, rfl, hmb, hma⟩ := EvsAt.open_n HEv9.out Hmn.out (by omega)
              have hea := (hma k e hE).c26
              have hdc : (d : Int) ≤ (co : Int) := by omega
              have hwd : IntKind.i64.wrap ((d : Int) + 1 - 1) = (d : Int) := by rw [IntKind.wrap_i64]; omega
              have horl : order = order.take d ++ [(k : Int)] := by
                have h := List.take_add_one (l := order) (i := d)
                rw [hx, List.take_of_length_le (by rw [← Hon.out]; exact Nat.le_refl _)] at h
                exact h
              have HPre := hide (show Rd w9 (.slice (some ⟨ob, oo, none⟩) d co) 1 d (intL (order.take d)) from ⟨by simp; have := Hon.out; omega, _, _, rfl, by omega, hcm, fun _ => ⟨_, _, rfl, hob, fun j u hj => hoc j u (by
                have hjd : j < d := by have := (List.getElem?_eq_some_iff.1 hj).1; simp at this; omega
                rw [← hj, List.getElem?_map, List.getElem?_map, List.getElem?_take_of_lt hjd])⟩⟩)
              have HE := hide (evs_at hE)
              have HOrl := hide horl
              clear hoc hma hx hE hx0 hxm horl
              by_cases he0 : e.e.to' = 0
              · have b0 : (e.e.to' != 0) = false := by simpa using he0
                have htl : (order.take d).length = d := by rw [List.length_take]; have := Hon.out; omega
                have hE9 := HEv9.out
                rw [Hmn.out] at hE9
                have HL9 := hide (fun wq (hb : Below w9.heap.size w9 wq) => HLe.out m _ (order.take d) (.slice (some ⟨ob, oo, none⟩) d co) wq (below2 Hc9.out hb) (hE9.below hb) (by rw [htl]; exact HPre.out.below hb) (by have := Hmn.out; omega) (by omega) Hsm3.out)
                have hz := (legalC_iff a ts b c (evsOf m) (order.take d)).2 ⟨Hck.out, Hce.out, by
                  have h := Hlg.out
                  rw [HOrl.out] at h
                  exact h.init (by rw [Int.toNat_natCast]; exact HE.out) he0⟩
                obtain ⟨⟨V1, V2⟩, hVV⟩ : ∃ R, R = legalC a ts b c (evsOf m) (order.take d) := ⟨_, rfl⟩
                rw [← hVV] at HL9 hz
                obtain rfl : V2 = 0 := hz
                rw [← Hmn.out] at HL9
                clear hE9 htl hVV
                go_wp2_with fail
                refine wp_region_ext (by kernel_rfl) (by kernel_rfl) ?_
                repeat (first
                  | go_big_quiet_skip
                  | (go_big_quiet_want
                     first
                       | (apply quiet_val
                          · intro wq hq
                            have hcq := hq.cells
                            have hzq := hq.lift
                            go_simp
                            try go_bits
                            first | done | with_reducible rfl
                          (try simp only [Act.put, List.setIfInBounds_toArray, List.set_cons_zero, List.set_cons_succ])
                          go_big_quiet_on)
                       | (apply quiet_call
                          · intro wq hq
                            have hcq := hq.cells
                            have hzq := hq.lift
                            go_simp
                            first
                              | ((go_at_call 19; exact ((HL9.out wq hq.below).mono fun e w' hp => ⟨hp.1, hq.call hp.2⟩)))
                          (try simp only [Act.put, List.setIfInBounds_toArray, List.set_cons_zero, List.set_cons_succ])
                          go_big_quiet_on)))
                refine wpQuiet_nil ?_
                intro w10 hw10
                have Hc10 := hide (below2 Hc9.out hw10.below)
                clear hw10 HL9
                go_wp2_with fail
                refine (HAw.out _ Hc10.out).mono ?_
                rintro e w9 ⟨rfl, hb9⟩
                have Hb9 := hide (below2 Hc10.out hb9)
                clear hb9
                go_wp2
                go_ret
                exact ⟨by simp, Hb9.out⟩
              · have b0 : (e.e.to' != 0) = true := by simpa using he0
                go_wp2_with fail
                refine (HAw.out _ Hc9.out).mono ?_
                rintro e w9 ⟨rfl, hb9⟩
                have Hb9 := hide (below2 Hc9.out hb9)
                clear hb9
                go_wp2
                go_ret
                exact ⟨by simp, Hb9.out⟩
      · have b2 : (R2 != 0) = true := by simpa using h2
        go_wp2_with fail
        refine (HAw.out _ Hc7.out).mono ?_
        rintro e w9 ⟨rfl, hb9⟩
        have Hb9 := hide (below2 Hc7.out hb9)
        clear hb9
        go_wp2
        go_ret
        exact ⟨by simp, Hb9.out⟩
  · by_cases h1 : sb = true
    · subst h1
      by_cases k0 : en ≤ 20
      · have j0 : ¬ (en : Int) > 20 := by omega
        have k1 : ¬ sn ≤ 20 := fun h => hok ⟨rfl, k0, h⟩
        have j1 : (sn : Int) > 20 := by omega
        go_wp2_with fail
        refine (HAw.out _ Hc1.out).mono ?_
        rintro e w9 ⟨rfl, hb9⟩
        have Hb9 := hide (below2 Hc1.out hb9)
        clear hb9
        go_wp2
        go_ret
        exact ⟨by simp, Hb9.out⟩
      · have j0 : (en : Int) > 20 := by omega
        go_wp2_with fail
        refine (HAw.out _ Hc1.out).mono ?_
        rintro e w9 ⟨rfl, hb9⟩
        have Hb9 := hide (below2 Hc1.out hb9)
        clear hb9
        go_wp2
        go_ret
        exact ⟨by simp, Hb9.out⟩
    · obtain rfl : sb = false := by simpa using h1
      go_wp2_with fail
      refine (HAw.out _ Hc1.out).mono ?_
      rintro e w9 ⟨rfl, hb9⟩
      have Hb9 := hide (below2 Hc1.out hb9)
      clear hb9
      go_wp2
      go_ret
      exact ⟨by simp, Hb9.out⟩

end Go.Proofs.YtkkflnmfghegnaaGreatDoor
