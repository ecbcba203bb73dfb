/-
  The walk of the law LinSome. Conditions: names that fit memory, numbers that an int holds; the calls' fields and the ways between modes in memory.
-/
import Derived.Test.YtkkflnmfghegnaaGreatDoorLLawLegal
import Derived.Test.YtkkflnmfghegnaaGreatDoorLLegalP
import Derived.Test.YtkkflnmfghegnaaGreatDoorLLeast
import Derived.Test.YtkkflnmfghegnaaGreatDoorLInts
namespace Go.Proofs.YtkkflnmfghegnaaGreatDoor
open Go.RowKit

set_option maxRecDepth 100000 in
set_option maxHeartbeats 6400000 in
theorem law_some (a b c : Int) (ts : List Tp) (cv : Value) (calls : List Ac) (lv : Value) (picks : List Pk) (pv : Value) (edits : List Ed) (ve : Value) (w : World)
    (hr : Rd w cv 3 ts.length (flatT ts)) (hts : ∀ t ∈ ts, t.1.size ≤ 9223372036854775807) (hl : ActsAt w lv calls) (hp : Rd w pv 2 picks.length (flatK picks)) (he : Rd w ve 3 edits.length (edits.flatMap edC)) (hF : FieldsAt w) (hW : WaysAt w) :
    Calls Tryz.prog 7 #[playV a cv b c lv pv, ve] w fun e w' => e = .returned (.bool true) ∧ Below w.heap.size w w' := by
  have HAw := hide (fun x (hb : Below w.heap.size w x) => awake_any x (hF.below hb) (hW.below hb))
  obtain ⟨A0, c0, rfl, h0c, h0m, -⟩ := id hr.shape
  obtain ⟨PA, pc, rfl, hpc, hpm, -⟩ := id hp.shape
  obtain ⟨EA, ec, rfl, -⟩ := id he.shape
  obtain ⟨W0, hW0⟩ : ∃ W0, W0 = w.alloc (.cells #[.int .i64 a, .slice A0 ts.length c0, .int .i64 b, .int .i64 c, lv, .slice PA picks.length pc] 54) := ⟨_, rfl⟩
  have hb0 := below_new w (.cells #[.int .i64 a, .slice A0 ts.length c0, .int .i64 b, .int .i64 c, lv, .slice PA picks.length pc] 54)
  have hbx := heap_alloc_new w (.cells #[.int .i64 a, .slice A0 ts.length c0, .int .i64 b, .int .i64 c, lv, .slice PA picks.length pc] 54)
  rw [← hW0] at hb0 hbx
  have hsz0 : w.heap.size < W0.heap.size := by rw [hW0]; simp
  have HBox := hide (fun x (hb : Below W0.heap.size W0 x) => (hb.block w.heap.size hsz0).trans hbx)
  have Hb0 := hide hb0
  have HSm := hide (small_any a b c ts.length c0 A0 calls lv PA picks.length pc W0 (hl.below hb0) (by omega) (by omega))
  have HHi := hide (fun x (hb : Below w.heap.size w x) (hsm : smallB calls picks.length ts.length = true) => history_any a b c ts (.slice A0 ts.length c0) calls lv picks (.slice PA picks.length pc) x (hr.below hb) hts (hl.below hb) (hp.below hb) (hF.below hb) (hW.below hb) (small_true hsm).1 (small_true hsm).2.1 (small_true hsm).2.2.2)
  have HCk := hide (fun x (hb : Below w.heap.size w x) => check_any a b c ts (.slice A0 ts.length c0) x (hr.below hb) hts)
  have HLe := hide (fun (l : List Em) (v : Value) (order : List Int) (vo : Value) x (hb : Below w.heap.size w x) (h : EvsAt x v l) (ho : Rd x vo 1 order.length (intL order)) (hll : l.length ≤ 100) (hol : order.length ≤ 1000) (hsm : ∀ e ∈ l, e.e.c.set.length ≤ 100 ∧ e.e.c.words.length ≤ 100) => legal_any a b c ts (.slice A0 ts.length c0) l v order vo x (hr.below hb) hts h ho (hF.below hb) (hW.below hb) hll hol hsm)
  have HSo := hide (fun (l : List Em) (v : Value) x (hb : Below w.heap.size w x) (h : EvsAt x v l) (hll : l.length ≤ 100) (hsm : ∀ e ∈ l, e.e.c.set.length ≤ 100 ∧ e.e.c.words.length ≤ 100) => some_any a b c ts (.slice A0 ts.length c0) l v x (hr.below hb) hts h (hF.below hb) (hW.below hb) hll hsm)
  have HLs := hide (fun (hck : checkS a ts b c = (0, 0)) (l : List Em) (v : Value) x (hb : Below w.heap.size w x) (h : EvsAt x v l) (hll : l.length ≤ 6) (hsm : ∀ e ∈ l, e.e.c.set.length ≤ 100 ∧ e.e.c.words.length ≤ 100) => least_any a b c ts (.slice A0 ts.length c0) l v hck hts (by omega) hsm 7 [] nilS x (hr.below hb) h (Rd.nil _ _) (hF.below hb) (hW.below hb) ⟨fun k hk => (by cases hk), List.nodup_nil⟩ (by simp; omega))
  obtain ⟨en, hen⟩ : ∃ n, n = edits.length := ⟨_, rfl⟩
  obtain ⟨tn, htn⟩ : ∃ n, n = ts.length := ⟨_, rfl⟩
  obtain ⟨pn, hpn⟩ : ∃ n, n = picks.length := ⟨_, rfl⟩
  obtain ⟨LA, lc, hlv, -⟩ := id hl
  obtain ⟨cn, hcn⟩ : ∃ n, n = calls.length := ⟨_, rfl⟩
  subst hlv
  rw [← hen] at he
  rw [← hcn, ← htn, ← hpn] at HSm HBox hW0
  rw [← hcn] at HHi
  rw [← htn, ← hpn] at HHi
  rw [← htn] at HCk HLe HSo HLs
  rw [← hen, ← htn, ← hpn, ← hcn]
  have He := hide he
  have Hen := hide hen
  have HW0 := hide hW0
  have Hcn := hide hcn
  clear hr hts hl hp hF hW htn hpn h0c h0m hpc hpm hcn hsz0 hb0 hbx hW0 he hen
  go_enter Tryz.func7, Tryz.ntmps7
  go_wp2_with fail
  rw [← HW0.out]
  refine HSm.out.mono ?_
  rintro e w1 ⟨rfl, hb1⟩
  have Hb1 := hide hb1
  have Hc1 := hide (below2 Hb0.out hb1)
  obtain ⟨sb, hsb⟩ : ∃ x, x = smallB calls pn tn := ⟨_, rfl⟩
  rw [← hsb] at HHi ⊢
  have Hsb := hide hsb
  clear hb1 hsb HSm
  have hx := HBox.out w1 Hb1.out
  obtain ⟨y0, y1, y2, y3, y4, y5, yf, yl⟩ := row6 hx
  clear hx
  by_cases hok : sb = true ∧ cn ≤ 7 ∧ en ≤ 20
  · obtain ⟨rfl, hk0, hk1⟩ := hok
    have hi0 : ¬ (cn : Int) > 7 := by omega
    have hi1 : ¬ (en : Int) > 20 := by omega
    have HH2 := hide (HHi.out w1 Hc1.out rfl)
    clear HHi
    go_wp2_with fail
    refine HH2.out.mono ?_
    rintro e w2 ⟨hb2, ⟨hbad, rfl⟩ | ⟨hgood, v, l, t, i, n, s, rfl, hR, hEl, hEv⟩⟩
    · have Hc2 := hide (below2 Hc1.out hb2)
      have Hb2 := hide (below2 Hb1.out hb2)
      have Hbad := hide hbad
      have hx := HBox.out w2 Hb2.out
      obtain ⟨y0, y1, y2, y3, y4, y5, yf, yl⟩ := row6 hx
      clear hx
      clear hb2 hbad HH2
      have HS3 := hide (HSo.out [] nilS w2 Hc2.out ⟨Rd.nil _ _, fun e he => by cases he⟩ (by simp) (fun e he => by cases he))
      rw [show evsOf [] = ([] : List Ev) from rfl, some_bad Hbad.out] at HS3
      go_wp2_with fail
      refine HS3.out.mono ?_
      rintro e w3 ⟨vs, rfl, -, hnone, hb3, -⟩
      obtain rfl := hnone rfl
      have Hc3 := hide (below2 Hc2.out hb3)
      have Hb3 := hide (below2 Hb2.out hb3)
      have hx := HBox.out w3 Hb3.out
      obtain ⟨y0, y1, y2, y3, y4, y5, yf, yl⟩ := row6 hx
      clear hx
      have HC3 := hide (HCk.out w3 Hc3.out)
      have hf2 := checkS_code Hbad.out
      obtain ⟨⟨f1, f2⟩, hff⟩ : ∃ F, F = checkS a ts b c := ⟨_, rfl⟩
      rw [← hff] at HC3 hf2 ⊢
      have b0 : (f2 != 0) = true := by simpa using hf2
      have hfc := field_code f1 f2
      clear hff hf2 hb3 HS3 hnone
      go_wp2_with fail
      refine HC3.out.mono ?_
      rintro e w4 ⟨rfl, hb4⟩
      have Hc4 := hide (below2 Hc3.out hb4)
      clear hb4
      go_wp2_with fail
      refine (HAw.out _ Hc4.out).mono ?_
      rintro e w9 ⟨rfl, hb9⟩
      have Hb9 := hide (below2 Hc4.out hb9)
      clear hb9
      go_wp2
      go_ret
      exact ⟨by simp, Hb9.out⟩
    · have Hc2 := hide (below2 Hc1.out hb2)
      have Hb2 := hide (below2 Hb1.out hb2)
      have Hgood := hide hgood
      have HR := hide hR
      have HEl := hide hEl
      have HEv := hide hEv
      obtain ⟨hll, hsml⟩ := hist_small hR hEl (small_true Hsb.out.symm).2.2.2
      have Hsml := hide hsml
      have hln : l.length ≤ 60 := by have := (small_true Hsb.out.symm).1; omega
      have hlc : l.length ≤ 7 := by have := Hcn.out; omega
      clear hb2 hgood hR hEl hEv hsml hll HH2
      have HEd := hide (edited_any l v edits (.slice EA en ec) w2 HEv.out (by rw [← Hen.out]; exact He.out.below Hc2.out) (by omega) (by rw [← Hen.out]; omega) Hsml.out)
      go_wp2_with fail
      refine HEd.out.mono ?_
      rintro e w3 ⟨vo, m, rfl, hml, hEv3, hsm3, hb3⟩
      have Hc3 := hide (below2 Hc2.out hb3)
      have Hb3 := hide (below2 Hb2.out hb3)
      have HEv3 := hide hEv3
      have Hsm3 := hide hsm3
      have hml' : m.length ≤ 60 := by omega
      clear hb3 hEv3 hsm3 HEd
      have HS4 := hide (HSo.out m vo w3 Hc3.out HEv3.out (by omega) Hsm3.out)
      obtain ⟨⟨R1, R2⟩, hRR⟩ : ∃ R, R = someC a ts b c (evsOf m) := ⟨_, rfl⟩
      rw [← hRR] at HS4
      have HRR := hide hRR
      have hx := HBox.out w3 Hb3.out
      obtain ⟨y0, y1, y2, y3, y4, y5, yf, yl⟩ := row6 hx
      clear hx
      clear hRR
      go_wp2_with fail
      refine HS4.out.mono ?_
      rintro e w5 ⟨vs, rfl, hsome, hnone, hb5, -⟩
      have Hc5 := hide (below2 Hc3.out hb5)
      have Hb5 := hide (below2 Hb3.out hb5)
      have HEv5 := hide (HEv3.out.below hb5)
      have Hsome := hide hsome
      have Hnone := hide hnone
      clear hsome hnone hb5 HS4
      have HT5 := hide (times_any m vo w5 HEv5.out (by omega))
      go_wp2_with fail
      refine HT5.out.mono ?_
      rintro e w6 ⟨vt, rfl, hown6, hb6⟩
      have Hc6 := hide (below2 Hc5.out hb6)
      have Hb6 := hide (below2 Hb5.out hb6)
      have HEv6 := hide (HEv5.out.below hb6)
      have hlt : ((evsOf m).map tmOf).length = m.length := by rw [List.length_map, evs_len]
      have HK6 := hide (refcheck_any ((evsOf m).map tmOf) vt w6 (by rw [hlt]; exact Rd.of_own hown6))
      rw [check_map] at HK6
      obtain ⟨ce, hce⟩ : ∃ x, x = checkE (evsOf m) := ⟨_, rfl⟩
      rw [← hce] at HK6
      have Hce := hide hce
      clear hce hown6 HT5
      go_wp2_with fail
      refine HK6.out.mono ?_
      rintro e w7 ⟨rfl, hb7⟩
      have Hc7 := hide (below2 Hc6.out hb7)
      have Hb7 := hide (below2 Hb6.out hb7)
      have HEv7 := hide (HEv6.out.below hb7)
      have Hsome7 := hide (fun o h => ((Hsome.out o h).below hb6).below hb7)
      obtain ⟨AM, cm, rfl, -⟩ := id HEv7.out.1.shape
      obtain ⟨mn, hmn⟩ : ∃ k, k = m.length := ⟨_, rfl⟩
      have Hmn := hide hmn
      clear hb6 hb7 HK6
      by_cases h0 : ce = 0
      · subst h0
        have b1 : ((0 : Int) == 0) = true := rfl
        by_cases h6 : m.length ≤ 6
        · have HL7 := hide (HLs.out Hgood.out m (.slice AM m.length cm) w7 Hc7.out HEv7.out h6 Hsm3.out)
          rw [least_try Hce.out.symm 7 (newS a ts b c) [] ⟨fun k hk => (by cases hk), List.nodup_nil⟩ List.Pairwise.nil rfl] at HL7
          have hl6 : ¬ 6 < (evsOf m).length := by rw [evs_len]; omega
          rw [← hmn] at h6 HL7
          simp only [← hmn]
          have h6' : ¬ (mn : Int) > 6 := by omega
          have hx := HBox.out w7 Hb7.out
          obtain ⟨y0, y1, y2, y3, y4, y5, yf, yl⟩ := row6 hx
          clear hx
          clear hmn
          cases hres : tryS (evsOf m) 7 (newS a ts b c) [] with
          | none =>
            have hsc := some_none Hgood.out Hce.out.symm hl6 hres
            rw [← HRR.out] at hsc
            rw [hres] at HL7
            obtain ⟨rfl, rfl⟩ : R1 = none ∧ R2 = 14 := by simpa using hsc
            have hv := Hnone.out rfl
            subst hv
            clear hsc hres hl6
            go_wp2_with fail
            refine HL7.out.mono ?_
            rintro e9 w9 ⟨vr, rfl, hrd, hb9⟩
            have Hc9 := hide (below2 Hc7.out hb9)
            simp only [Option.isSome_none]
            clear hrd hb9 HL7
            go_wp2_with fail
            refine (HAw.out _ Hc9.out).mono ?_
            rintro e w9 ⟨rfl, hb9⟩
            have Hb9 := hide (below2 Hc9.out hb9)
            clear hb9
            go_wp2
            go_ret
            exact ⟨by simp, Hb9.out⟩
          | some r =>
            have hsc := some_some Hgood.out Hce.out.symm hl6 hres
            rw [← HRR.out] at hsc
            rw [hres] at HL7
            obtain ⟨rfl, rfl⟩ : R1 = some r ∧ R2 = 0 := by simpa using hsc
            have hv := Hsome7.out r rfl
            have Hv := hide hv
            clear hsc hres hv hl6
            go_wp2_with fail
            refine HL7.out.mono ?_
            rintro e9 w9 ⟨vr, rfl, hrd, hb9⟩
            have Hc9 := hide (below2 Hc7.out hb9)
            have HI9 := hide (ints_any r r vs vr w9 (Hv.out.below hb9) (hrd r rfl))
            rw [decide_eq_true (rfl : r = r)] at HI9
            simp only [Option.isSome_some]
            clear hrd hb9 HL7
            go_wp2_with fail
            refine HI9.out.mono ?_
            rintro e10 w10 ⟨rfl, hb10⟩
            have Hc10 := hide (below2 Hc9.out hb10)
            clear hb10 HI9
            go_wp2_with fail
            refine (HAw.out _ Hc10.out).mono ?_
            rintro e w9 ⟨rfl, hb9⟩
            have Hb9 := hide (below2 Hc10.out hb9)
            clear hb9
            go_wp2
            go_ret
            exact ⟨by simp, Hb9.out⟩
        · have hsc : someC a ts b c (evsOf m) = (none, 12) := some_long Hgood.out Hce.out.symm (by rw [evs_len]; omega)
          rw [← HRR.out] at hsc
          obtain ⟨rfl, rfl⟩ : R1 = none ∧ R2 = 12 := by simpa using hsc
          have hv := Hnone.out rfl
          subst hv
          rw [← hmn] at h6
          simp only [← hmn]
          have h6' : (mn : Int) > 6 := by omega
          clear hmn hsc
          go_wp2_with fail
          refine (HAw.out _ Hc7.out).mono ?_
          rintro e w9 ⟨rfl, hb9⟩
          have Hb9 := hide (below2 Hc7.out hb9)
          clear hb9
          go_wp2
          go_ret
          exact ⟨by simp, Hb9.out⟩
      · have hsc : someC a ts b c (evsOf m) = (none, ce) := (some_check Hgood.out (by rw [← Hce.out]; exact h0)).trans (by rw [← Hce.out])
        rw [← HRR.out] at hsc
        obtain ⟨rfl, rfl⟩ : R1 = none ∧ R2 = ce := by simpa using hsc
        have hv := Hnone.out rfl
        subst hv
        have b1 : (R2 == 0) = false := by simpa using h0
        have b2 : (R2 != 0) = true := by simpa using h0
        simp only [← hmn]
        clear hmn hsc
        go_wp2_with fail
        refine (HAw.out _ Hc7.out).mono ?_
        rintro e w9 ⟨rfl, hb9⟩
        have Hb9 := hide (below2 Hc7.out hb9)
        clear hb9
        go_wp2
        go_ret
        exact ⟨by simp, Hb9.out⟩
  · by_cases h1 : sb = true
    · subst h1
      by_cases k0 : cn ≤ 7
      · have j0 : ¬ (cn : Int) > 7 := by omega
        have k1 : ¬ en ≤ 20 := fun h => hok ⟨rfl, k0, h⟩
        have j1 : (en : Int) > 20 := by omega
        go_wp2_with fail
        refine (HAw.out _ Hc1.out).mono ?_
        rintro e w9 ⟨rfl, hb9⟩
        have Hb9 := hide (below2 Hc1.out hb9)
        clear hb9
        go_wp2
        go_ret
        exact ⟨by simp, Hb9.out⟩
      · have j0 : (cn : Int) > 7 := by omega
        go_wp2_with fail
        refine (HAw.out _ Hc1.out).mono ?_
        rintro e w9 ⟨rfl, hb9⟩
        have Hb9 := hide (below2 Hc1.out hb9)
        clear hb9
        go_wp2
        go_ret
        exact ⟨by simp, Hb9.out⟩
    · obtain rfl : sb = false := by simpa using h1
      go_wp2_with fail
      refine (HAw.out _ Hc1.out).mono ?_
      rintro e w9 ⟨rfl, hb9⟩
      have Hb9 := hide (below2 Hc1.out hb9)
      clear hb9
      go_wp2
      go_ret
      exact ⟨by simp, Hb9.out⟩

end Go.Proofs.YtkkflnmfghegnaaGreatDoor
