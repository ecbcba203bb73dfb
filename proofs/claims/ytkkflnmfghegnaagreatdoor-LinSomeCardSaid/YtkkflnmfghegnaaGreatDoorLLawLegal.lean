/-
  The walk of the law LinLegal. Conditions: names that fit memory, numbers that an int holds; the calls' fields and the ways between modes in memory.
-/
import Derived.Test.YtkkflnmfghegnaaGreatDoorLHist
import Derived.Test.YtkkflnmfghegnaaGreatDoorLEdited
import Derived.Test.YtkkflnmfghegnaaGreatDoorLJudged
import Derived.Test.YtkkflnmfghegnaaGreatDoorLJudgP
import Derived.Test.YtkkflnmfghegnaaGreatDoorLAwake
import Derived.Test.YtkkflnmfghegnaaGreatDoorLLawTimes
namespace Go.Proofs.YtkkflnmfghegnaaGreatDoor
open Go.RowKit

/-- What a play that goes on has: no more events than calls, of calls that are small. -/
theorem hist_small {calls : List Ac} {S0 : Bd} {t i n : Nat} {s : Hs} {l : List Em} (h : Runs calls S0 t i n s) (hl : evsOf l = s.l) (hsm : ∀ a ∈ calls, a.c.set.length ≤ 100 ∧ a.c.words.length ≤ 100) : l.length ≤ calls.length ∧ ∀ e ∈ l, e.e.c.set.length ≤ 100 ∧ e.e.c.words.length ≤ 100 := by
  refine ⟨by have := h.inv.len; rw [← hl, evsOf, List.length_map] at this; exact this, fun e he => ?_⟩
  obtain ⟨x, hx, hxc⟩ := h.inv.call (e := e.e) (by rw [← hl]; exact List.mem_map_of_mem he)
  rw [hxc]
  exact hsm x hx

theorem field_code (x y : Int) (w : World) : (Instr.field 62 (.agg #[.int .i64 x, .int .i64 y]) 1).run Tryz.prog w = .ok (.int .i64 y) w := by kernel_rfl

set_option maxRecDepth 100000 in
set_option maxHeartbeats 6400000 in
theorem law_legal (a b c : Int) (ts : List Tp) (cv : Value) (calls : List Ac) (lv : Value) (picks : List Pk) (pv : Value) (edits : List Ed) (ve : Value) (swaps : List Int) (vs : Value) (w : World)
    (hr : Rd w cv 3 ts.length (flatT ts)) (hts : ∀ t ∈ ts, t.1.size ≤ 9223372036854775807) (hl : ActsAt w lv calls) (hp : Rd w pv 2 picks.length (flatK picks)) (he : Rd w ve 3 edits.length (edits.flatMap edC)) (hs : Rd w vs 1 swaps.length (intL swaps)) (hsw : ∀ x ∈ swaps, x ≤ 9223372036854775807) (hF : FieldsAt w) (hW : WaysAt w) :
    Calls Tryz.prog 4 #[playV a cv b c lv pv, ve, vs] w fun e w' => e = .returned (.bool true) ∧ Below w.heap.size w w' := by
  have HAw := hide (fun x (hb : Below w.heap.size w x) => awake_any x (hF.below hb) (hW.below hb))
  obtain ⟨A0, c0, rfl, h0c, h0m, -⟩ := id hr.shape
  obtain ⟨PA, pc, rfl, hpc, hpm, -⟩ := id hp.shape
  obtain ⟨EA, ec, rfl, -⟩ := id he.shape
  obtain ⟨SA, sc, rfl, -⟩ := id hs.shape
  obtain ⟨W0, hW0⟩ : ∃ W0, W0 = w.alloc (.cells #[.int .i64 a, .slice A0 ts.length c0, .int .i64 b, .int .i64 c, lv, .slice PA picks.length pc] 54) := ⟨_, rfl⟩
  have hb0 := below_new w (.cells #[.int .i64 a, .slice A0 ts.length c0, .int .i64 b, .int .i64 c, lv, .slice PA picks.length pc] 54)
  have hbx := heap_alloc_new w (.cells #[.int .i64 a, .slice A0 ts.length c0, .int .i64 b, .int .i64 c, lv, .slice PA picks.length pc] 54)
  rw [← hW0] at hb0 hbx
  have hsz0 : w.heap.size < W0.heap.size := by rw [hW0]; simp
  have HBox := hide (fun x (hb : Below W0.heap.size W0 x) => (hb.block w.heap.size hsz0).trans hbx)
  have Hb0 := hide hb0
  have HSm := hide (small_any a b c ts.length c0 A0 calls lv PA picks.length pc W0 (hl.below hb0) (by omega) (by omega))
  have HHi := hide (fun x (hb : Below w.heap.size w x) (hsm : smallB calls picks.length ts.length = true) => history_any a b c ts (.slice A0 ts.length c0) calls lv picks (.slice PA picks.length pc) x (hr.below hb) hts (hl.below hb) (hp.below hb) (hF.below hb) (hW.below hb) (small_true hsm).1 (small_true hsm).2.1 (small_true hsm).2.2.2)
  have HCk := hide (fun x (hb : Below w.heap.size w x) => check_any a b c ts (.slice A0 ts.length c0) x (hr.below hb) hts)
  obtain ⟨en, hen⟩ : ∃ n, n = edits.length := ⟨_, rfl⟩
  obtain ⟨sn, hsn⟩ : ∃ n, n = swaps.length := ⟨_, rfl⟩
  obtain ⟨tn, htn⟩ : ∃ n, n = ts.length := ⟨_, rfl⟩
  obtain ⟨pn, hpn⟩ : ∃ n, n = picks.length := ⟨_, rfl⟩
  obtain ⟨LA, lc, hlv, -⟩ := id hl
  obtain ⟨cn, hcn⟩ : ∃ n, n = calls.length := ⟨_, rfl⟩
  have HLe := hide (fun (l : List Em) (v : Value) (order : List Int) (vo : Value) x (hb : Below w.heap.size w x) (h : EvsAt x v l) (ho : Rd x vo 1 order.length (intL order)) (hll : l.length ≤ 100) (hol : order.length ≤ 1000) (hsm : ∀ e ∈ l, e.e.c.set.length ≤ 100 ∧ e.e.c.words.length ≤ 100) => legal_any a b c ts (.slice A0 ts.length c0) l v order vo x (hr.below hb) hts h ho (hF.below hb) (hW.below hb) hll hol hsm)
  have HJu := hide (fun (l : List Em) (v : Value) (order : List Int) (vo : Value) x (hb : Below w.heap.size w x) (h : EvsAt x v l) (ho : Rd x vo 1 order.length (intL order)) (hll : l.length ≤ 100) (hol : order.length ≤ 1000) (hsm : ∀ e ∈ l, e.e.c.set.length ≤ 100 ∧ e.e.c.words.length ≤ 100) => judged_any a b c ts (.slice A0 ts.length c0) l v order vo x (hr.below hb) hts h ho (hF.below hb) (hW.below hb) hll hol hsm)
  subst hlv
  rw [← hen] at he
  rw [← hsn] at hs
  rw [← hcn, ← htn, ← hpn] at HSm HBox hW0
  rw [← hcn] at HHi
  rw [← htn, ← hpn] at HHi
  rw [← htn] at HCk HLe HJu
  rw [← hen, ← hsn, ← htn, ← hpn, ← hcn]
  have He := hide he
  have Hs := hide hs
  have Hsw := hide hsw
  have Hen := hide hen
  have Hsn := hide hsn
  have Hcn := hide hcn
  have HW0 := hide hW0
  clear hr hts hl hp he hs hsw hF hW hen hsn htn hpn h0c h0m hpc hpm hcn hsz0 hb0 hbx hW0
  go_enter Tryz.func4, Tryz.ntmps4
  go_wp2_with fail
  rw [← HW0.out]
  refine HSm.out.mono ?_
  rintro e w1 ⟨rfl, hb1⟩
  have Hb1 := hide hb1
  have Hc1 := hide (below2 Hb0.out hb1)
  obtain ⟨sb, hsb⟩ : ∃ x, x = smallB calls pn tn := ⟨_, rfl⟩
  rw [← hsb] at HHi ⊢
  have Hsb := hide hsb
  clear hb1 hsb HSm
  by_cases hok : sb = true ∧ en ≤ 20 ∧ sn ≤ 20
  · obtain ⟨rfl, hen, hsn⟩ := hok
    have hen' : ¬ (en : Int) > 20 := by omega
    have hsn' : ¬ (sn : Int) > 20 := by omega
    have HH2 := hide (HHi.out w1 Hc1.out rfl)
    clear HHi
    have hx := HBox.out w1 Hb1.out
    obtain ⟨y0, y1, y2, y3, y4, y5, yf, yl⟩ := row6 hx
    clear hx
    go_wp2_with fail
    refine HH2.out.mono ?_
    rintro e w2 ⟨hb2, ⟨hbad, rfl⟩ | ⟨hgood, v, l, t, i, n, s, rfl, hR, hEl, hEv⟩⟩
    · have Hc2 := hide (below2 Hc1.out hb2)
      have Hb2 := hide (below2 Hb1.out hb2)
      have Hbad := hide hbad
      have hx := HBox.out w2 Hb2.out
      obtain ⟨y0, y1, y2, y3, y4, y5, yf, yl⟩ := row6 hx
      clear hx hb2 hbad
      have HL2 := hide (HLe.out [] nilS [] nilS w2 Hc2.out ⟨Rd.nil _ _, fun e he => by cases he⟩ (Rd.nil _ _) (by simp) (by simp) (fun e he => by cases he))
      go_wp2_with fail
      refine HL2.out.mono ?_
      rw [legal_bad Hbad.out]
      rintro e w3 ⟨rfl, hb3⟩
      have Hc3 := hide (below2 Hc2.out hb3)
      have Hb3 := hide (below2 Hb2.out hb3)
      have hx := HBox.out w3 Hb3.out
      obtain ⟨y0, y1, y2, y3, y4, y5, yf, yl⟩ := row6 hx
      have HC3 := hide (HCk.out w3 Hc3.out)
      have hf2 := checkS_code Hbad.out
      obtain ⟨⟨f1, f2⟩, hff⟩ : ∃ F, F = checkS a ts b c := ⟨_, rfl⟩
      rw [← hff] at HC3 hf2 ⊢
      have b0 : (f2 != 0) = true := by simpa using hf2
      have hfc := field_code f1 f2
      clear hx hb3 hff hf2 HL2
      go_wp2_with fail
      refine HC3.out.mono ?_
      rintro e w4 ⟨rfl, hb4⟩
      have Hc4 := hide (below2 Hc3.out hb4)
      clear hb4
      go_wp2_with fail
      refine (HAw.out _ Hc4.out).mono ?_
      rintro e w9 ⟨rfl, hb9⟩
      have Hb9 := hide (below2 Hc4.out hb9)
      clear hb9
      go_wp2
      go_ret
      exact ⟨by simp, Hb9.out⟩
    · have Hc2 := hide (below2 Hc1.out hb2)
      have Hb2 := hide (below2 Hb1.out hb2)
      have Hgood := hide hgood
      have HR := hide hR
      have HEl := hide hEl
      have HEv := hide hEv
      obtain ⟨hll, hsml⟩ := hist_small hR hEl (small_true Hsb.out.symm).2.2.2
      have Hsml := hide hsml
      have hln : l.length ≤ 60 := by have := (small_true Hsb.out.symm).1; omega
      clear hb2 hgood hR hEl hEv hsml hll
      have HEd := hide (edited_any l v edits (.slice EA en ec) w2 HEv.out (by rw [← Hen.out]; exact He.out.below Hc2.out) (by omega) (by rw [← Hen.out]; omega) Hsml.out)
      go_wp2_with fail
      refine HEd.out.mono ?_
      rintro e w3 ⟨vo, m, rfl, hml, hEv3, hsm3, hb3⟩
      have Hc3 := hide (below2 Hc2.out hb3)
      have Hb3 := hide (below2 Hb2.out hb3)
      have HEv3 := hide hEv3
      have Hsm3 := hide hsm3
      have hml' : m.length ≤ 60 := by omega
      clear hb3 hEv3 hsm3
      have HT3 := hide (times_any m vo w3 HEv3.out (by omega))
      go_wp2_with fail
      refine HT3.out.mono ?_
      rintro e w4 ⟨vt, rfl, hown4, hb4⟩
      have Hc4 := hide (below2 Hc3.out hb4)
      have Hb4 := hide (below2 Hb3.out hb4)
      have hlt : ((evsOf m).map tmOf).length = m.length := by rw [List.length_map, evs_len]
      have HO4 := hide (reforder_any ((evsOf m).map tmOf) vt w4 (by rw [hlt]; exact Rd.of_own hown4) (by omega))
      have HEv4 := hide (HEv3.out.below hb4)
      clear hown4 hb4 HT3
      go_wp2_with fail
      refine HO4.out.mono ?_
      rintro e w5 ⟨vr, out, last, rfl, hto, -, hown5, hb5⟩
      have hol : out.length ≤ 60 := by have := hto.len; rw [evsT_len] at this; omega
      have Hc5 := hide (below2 Hc4.out hb5)
      have Hb5 := hide (below2 Hb4.out hb5)
      have HEv5 := hide (HEv4.out.below hb5)
      rw [idxL_ints] at hown5
      have hcl : (out.map fun k : Nat => (k : Int)).length = out.length := by simp
      have HS5 := hide (swapped_any (out.map fun k : Nat => (k : Int)) swaps vr (.slice SA sn sc) w5 (by rw [hcl]; exact Rd.of_own hown5) (by rw [← Hsn.out]; exact Hs.out.below Hc5.out) (by omega) (by rw [← Hsn.out]; omega) Hsw.out)
      clear hto hown5 hb5 HO4
      go_wp2_with fail
      refine HS5.out.mono ?_
      rintro e w6 ⟨vd, order, rfl, hord, hown6, hb6⟩
      have hor : order.length ≤ 80 := by have := Hsn.out; omega
      have Hc6 := hide (below2 Hc5.out hb6)
      have Hb6 := hide (below2 Hb5.out hb6)
      have HEv6 := hide (HEv5.out.below hb6)
      have HOr := hide (Rd.of_own hown6)
      have HL6 := hide (HLe.out m vo order vd w6 Hc6.out HEv6.out HOr.out (by omega) (by omega) Hsm3.out)
      have hx := HBox.out w6 Hb6.out
      obtain ⟨y0, y1, y2, y3, y4, y5, yf, yl⟩ := row6 hx
      clear hx hown6 hb6 HS5 hord
      obtain ⟨⟨R1, R2⟩, hRR⟩ : ∃ R, R = legalC a ts b c (evsOf m) order := ⟨_, rfl⟩
      rw [← hRR] at HL6
      have HRR := hide hRR
      clear hRR
      go_wp2_with fail
      refine HL6.out.mono ?_
      rintro e w7 ⟨rfl, hb7⟩
      have Hc7 := hide (below2 Hc6.out hb7)
      have Hb7 := hide (below2 Hb6.out hb7)
      have HJ7 := hide (HJu.out m vo order vd w7 Hc7.out (HEv6.out.below hb7) (HOr.out.below hb7) (by omega) (by omega) Hsm3.out)
      rw [← HRR.out] at HJ7
      have hx := HBox.out w7 Hb7.out
      obtain ⟨y0, y1, y2, y3, y4, y5, yf, yl⟩ := row6 hx
      clear hx hb7 HL6
      go_wp2_with fail
      refine HJ7.out.mono ?_
      rintro e w8 ⟨rfl, hb8⟩
      have Hc8 := hide (below2 Hc7.out hb8)
      clear hb8 HJ7
      go_wp2_with fail
      refine (HAw.out _ Hc8.out).mono ?_
      rintro e w9 ⟨rfl, hb9⟩
      have Hb9 := hide (below2 Hc8.out hb9)
      clear hb9
      go_wp2
      go_ret
      exact ⟨by simp, Hb9.out⟩
  · by_cases h1 : sb = true
    · subst h1
      by_cases h2 : en ≤ 20
      · have h2' : ¬ (en : Int) > 20 := by omega
        have h3 : ¬ sn ≤ 20 := fun h => hok ⟨rfl, h2, h⟩
        have h3' : (sn : Int) > 20 := by omega
        go_wp2_with fail
        refine (HAw.out _ Hc1.out).mono ?_
        rintro e w9 ⟨rfl, hb9⟩
        have Hb9 := hide (below2 Hc1.out hb9)
        clear hb9
        go_wp2
        go_ret
        exact ⟨by simp, Hb9.out⟩
      · have h2' : (en : Int) > 20 := by omega
        go_wp2_with fail
        refine (HAw.out _ Hc1.out).mono ?_
        rintro e w9 ⟨rfl, hb9⟩
        have Hb9 := hide (below2 Hc1.out hb9)
        clear hb9
        go_wp2
        go_ret
        exact ⟨by simp, Hb9.out⟩
    · obtain rfl : sb = false := by simpa using h1
      go_wp2_with fail
      refine (HAw.out _ Hc1.out).mono ?_
      rintro e w9 ⟨rfl, hb9⟩
      have Hb9 := hide (below2 Hc1.out hb9)
      clear hb9
      go_wp2
      go_ret
      exact ⟨by simp, Hb9.out⟩

end Go.Proofs.YtkkflnmfghegnaaGreatDoor
