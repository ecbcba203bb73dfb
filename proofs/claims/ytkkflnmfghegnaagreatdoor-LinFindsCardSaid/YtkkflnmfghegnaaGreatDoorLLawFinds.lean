/-
  The walk of the law LinFinds. Conditions: names that fit memory, numbers that an int holds; the calls' fields and the ways between modes in memory.
-/
import Derived.Test.YtkkflnmfghegnaaGreatDoorLLawLegal
import Derived.Test.YtkkflnmfghegnaaGreatDoorLLegalP
import Derived.Test.YtkkflnmfghegnaaGreatDoorLRunsQ
namespace Go.Proofs.YtkkflnmfghegnaaGreatDoor
open Go.RowKit

theorem castL_ints (o : List Nat) : idxL o = intL (castL o) := idxL_ints o

/-- What Some finds is legal; where it finds none, nothing is. -/
theorem some_sound {a : Int} {ts : List Tp} {b c : Int} {l : List Ev} {o : List Int} {f : Int} (h : someC a ts b c l = (some o, f)) : f = 0 ∧ (legalC a ts b c l o).2 = 0 := by
  unfold someC at h
  split at h
  · cases h
  · rename_i h1
    split at h
    · cases h
    · rename_i h2
      split at h
      · cases h
      · split at h
        · cases h
        · rename_i r hr
          cases h
          have h1' : checkS a ts b c = (0, 0) := by simpa using h1
          have h2' : checkE l = 0 := by simpa using h2
          exact ⟨rfl, (legalC_iff a ts b c l o).2 ⟨h1', h2', (try_sound 7 (newS a ts b c) [] o ⟨fun k hk => (by cases hk), List.nodup_nil⟩ List.Pairwise.nil (fun k hk => by cases hk) rfl hr).1⟩⟩

theorem some_total {a : Int} {ts : List Tp} {b c : Int} {l : List Ev} {f : Int} (hck : checkS a ts b c = (0, 0)) (hce : checkE l = 0) (hl : l.length ≤ 6) (h : someC a ts b c l = (none, f)) : f = 14 ∧ ∀ o, (legalC a ts b c l o).2 ≠ 0 := by
  unfold someC at h
  rw [if_neg (by simp [hck]), if_neg (by simp [hce]), if_neg (by omega)] at h
  split at h
  · rename_i hn
    cases h
    refine ⟨rfl, fun o ho => ?_⟩
    have hlg := ((legalC_iff a ts b c l o).1 ho).2.2.left
    have hlen : (o.filter fun k => !failK l k).length ≤ l.length := by
      have := rem_apart (p := o.filter fun k => !failK l k) ⟨hlg.whole.lt, hlg.whole.nd⟩
      omega
    have := try_complete hlg (fun k hk => by simpa using (List.mem_filter.1 hk).2) 7 (newS a ts b c) [] _ rfl (by omega) rfl
    rw [hn] at this
    cases this
  · cases h

set_option maxRecDepth 100000 in
set_option maxHeartbeats 6400000 in
theorem law_finds (a b c : Int) (ts : List Tp) (cv : Value) (calls : List Ac) (lv : Value) (picks : List Pk) (pv : Value) (edits : List Ed) (ve : Value) (w : World)
    (hr : Rd w cv 3 ts.length (flatT ts)) (hts : ∀ t ∈ ts, t.1.size ≤ 9223372036854775807) (hl : ActsAt w lv calls) (hp : Rd w pv 2 picks.length (flatK picks)) (he : Rd w ve 3 edits.length (edits.flatMap edC)) (hF : FieldsAt w) (hW : WaysAt w) :
    Calls Tryz.prog 8 #[playV a cv b c lv pv, ve] w fun e w' => e = .returned (.bool true) ∧ Below w.heap.size w w' := by
  have HAw := hide (fun x (hb : Below w.heap.size w x) => awake_any x (hF.below hb) (hW.below hb))
  obtain ⟨A0, c0, rfl, h0c, h0m, -⟩ := id hr.shape
  obtain ⟨PA, pc, rfl, hpc, hpm, -⟩ := id hp.shape
  obtain ⟨EA, ec, rfl, -⟩ := id he.shape
  obtain ⟨W0, hW0⟩ : ∃ W0, W0 = w.alloc (.cells #[.int .i64 a, .slice A0 ts.length c0, .int .i64 b, .int .i64 c, lv, .slice PA picks.length pc] 54) := ⟨_, rfl⟩
  have hb0 := below_new w (.cells #[.int .i64 a, .slice A0 ts.length c0, .int .i64 b, .int .i64 c, lv, .slice PA picks.length pc] 54)
  have hbx := heap_alloc_new w (.cells #[.int .i64 a, .slice A0 ts.length c0, .int .i64 b, .int .i64 c, lv, .slice PA picks.length pc] 54)
  rw [← hW0] at hb0 hbx
  have hsz0 : w.heap.size < W0.heap.size := by rw [hW0]; simp
  have HBox := hide (fun x (hb : Below W0.heap.size W0 x) => (hb.block w.heap.size hsz0).trans hbx)
  have Hb0 := hide hb0
  have HSm := hide (small_any a b c ts.length c0 A0 calls lv PA picks.length pc W0 (hl.below hb0) (by omega) (by omega))
  have HHi := hide (fun x (hb : Below w.heap.size w x) (hsm : smallB calls picks.length ts.length = true) => history_any a b c ts (.slice A0 ts.length c0) calls lv picks (.slice PA picks.length pc) x (hr.below hb) hts (hl.below hb) (hp.below hb) (hF.below hb) (hW.below hb) (small_true hsm).1 (small_true hsm).2.1 (small_true hsm).2.2.2)
  have HCk := hide (fun x (hb : Below w.heap.size w x) => check_any a b c ts (.slice A0 ts.length c0) x (hr.below hb) hts)
  have HLe := hide (fun (l : List Em) (v : Value) (order : List Int) (vo : Value) x (hb : Below w.heap.size w x) (h : EvsAt x v l) (ho : Rd x vo 1 order.length (intL order)) (hll : l.length ≤ 100) (hol : order.length ≤ 1000) (hsm : ∀ e ∈ l, e.e.c.set.length ≤ 100 ∧ e.e.c.words.length ≤ 100) => legal_any a b c ts (.slice A0 ts.length c0) l v order vo x (hr.below hb) hts h ho (hF.below hb) (hW.below hb) hll hol hsm)
  have HSo := hide (fun (l : List Em) (v : Value) x (hb : Below w.heap.size w x) (h : EvsAt x v l) (hll : l.length ≤ 100) (hsm : ∀ e ∈ l, e.e.c.set.length ≤ 100 ∧ e.e.c.words.length ≤ 100) => some_any a b c ts (.slice A0 ts.length c0) l v x (hr.below hb) hts h (hF.below hb) (hW.below hb) hll hsm)
  obtain ⟨en, hen⟩ : ∃ n, n = edits.length := ⟨_, rfl⟩
  obtain ⟨tn, htn⟩ : ∃ n, n = ts.length := ⟨_, rfl⟩
  obtain ⟨pn, hpn⟩ : ∃ n, n = picks.length := ⟨_, rfl⟩
  obtain ⟨LA, lc, hlv, -⟩ := id hl
  obtain ⟨cn, hcn⟩ : ∃ n, n = calls.length := ⟨_, rfl⟩
  subst hlv
  rw [← hen] at he
  rw [← hcn, ← htn, ← hpn] at HSm HBox hW0
  rw [← hcn] at HHi
  rw [← htn, ← hpn] at HHi
  rw [← htn] at HCk HLe HSo
  rw [← hen, ← htn, ← hpn, ← hcn]
  have He := hide he
  have Hen := hide hen
  have HW0 := hide hW0
  have Hcn := hide hcn
  clear hr hts hl hp hF hW htn hpn h0c h0m hpc hpm hcn hsz0 hb0 hbx hW0 he hen
  go_enter Tryz.func8, Tryz.ntmps8
  go_wp2_with fail
  rw [← HW0.out]
  refine HSm.out.mono ?_
  rintro e w1 ⟨rfl, hb1⟩
  have Hb1 := hide hb1
  have Hc1 := hide (below2 Hb0.out hb1)
  obtain ⟨sb, hsb⟩ : ∃ x, x = smallB calls pn tn := ⟨_, rfl⟩
  rw [← hsb] at HHi ⊢
  have Hsb := hide hsb
  clear hb1 hsb HSm
  have hx := HBox.out w1 Hb1.out
  obtain ⟨y0, y1, y2, y3, y4, y5, yf, yl⟩ := row6 hx
  clear hx
  by_cases hok : sb = true ∧ cn ≤ 6 ∧ en ≤ 20
  · obtain ⟨rfl, hk0, hk1⟩ := hok
    have hi0 : ¬ (cn : Int) > 6 := by omega
    have hi1 : ¬ (en : Int) > 20 := by omega
    have HH2 := hide (HHi.out w1 Hc1.out rfl)
    clear HHi
    go_wp2_with fail
    refine HH2.out.mono ?_
    rintro e w2 ⟨hb2, ⟨hbad, rfl⟩ | ⟨hgood, v, l, t, i, n, s, rfl, hR, hEl, hEv⟩⟩
    · have Hc2 := hide (below2 Hc1.out hb2)
      have Hb2 := hide (below2 Hb1.out hb2)
      have Hbad := hide hbad
      have hx := HBox.out w2 Hb2.out
      obtain ⟨y0, y1, y2, y3, y4, y5, yf, yl⟩ := row6 hx
      clear hx
      clear hb2 hbad HH2
      have HC3 := hide (HCk.out w2 Hc2.out)
      have hf2 := checkS_code Hbad.out
      obtain ⟨⟨f1, f2⟩, hff⟩ : ∃ F, F = checkS a ts b c := ⟨_, rfl⟩
      rw [← hff] at HC3 hf2
      have b0 : (f2 != 0) = true := by simpa using hf2
      have hfc := field_code f1 f2
      clear hff hf2
      go_wp2_with fail
      refine HC3.out.mono ?_
      rintro e w4 ⟨rfl, hb4⟩
      have Hc4 := hide (below2 Hc2.out hb4)
      clear hb4
      go_wp2_with fail
      refine (HAw.out _ Hc4.out).mono ?_
      rintro e w9 ⟨rfl, hb9⟩
      have Hb9 := hide (below2 Hc4.out hb9)
      clear hb9
      go_wp2
      go_ret
      exact ⟨by simp, Hb9.out⟩
    · have Hc2 := hide (below2 Hc1.out hb2)
      have Hb2 := hide (below2 Hb1.out hb2)
      have Hgood := hide hgood
      have HR := hide hR
      have HEl := hide hEl
      have HEv := hide hEv
      obtain ⟨hll, hsml⟩ := hist_small hR hEl (small_true Hsb.out.symm).2.2.2
      have Hsml := hide hsml
      have hln : l.length ≤ 60 := by have := (small_true Hsb.out.symm).1; omega
      have hlc : l.length ≤ 6 := by have := Hcn.out; omega
      clear hb2 hgood hR hEl hEv hsml hll HH2
      have HEd := hide (edited_any l v edits (.slice EA en ec) w2 HEv.out (by rw [← Hen.out]; exact He.out.below Hc2.out) (by omega) (by rw [← Hen.out]; omega) Hsml.out)
      go_wp2_with fail
      refine HEd.out.mono ?_
      rintro e w3 ⟨vo, m, rfl, hml, hEv3, hsm3, hb3⟩
      have Hc3 := hide (below2 Hc2.out hb3)
      have Hb3 := hide (below2 Hb2.out hb3)
      have HEv3 := hide hEv3
      have Hsm3 := hide hsm3
      have hml' : m.length ≤ 60 := by omega
      clear hb3 hEv3 hsm3 HEd
      have hm6 : m.length ≤ 6 := by omega
      have HOd := hide (order_any m vo w3 HEv3.out (by omega))
      go_wp2_with fail
      refine HOd.out.mono ?_
      rintro e w4 ⟨vr, o, rfl, hord, hnil, hown4, hb4⟩
      have Hc4 := hide (below2 Hc3.out hb4)
      have Hb4 := hide (below2 Hb3.out hb4)
      have HEv4 := hide (HEv3.out.below hb4)
      rw [castL_ints] at hown4
      have hcl : (castL o).length = o.length := by simp [castL]
      have HOr4 := hide (Rd.of_own hown4)
      have Hord := hide hord
      have HS4 := hide (HSo.out m vo w4 Hc4.out HEv4.out (by omega) Hsm3.out)
      obtain ⟨⟨R1, R2⟩, hRR⟩ : ∃ R, R = someC a ts b c (evsOf m) := ⟨_, rfl⟩
      rw [← hRR] at HS4
      have HRR := hide hRR
      have hx := HBox.out w4 Hb4.out
      obtain ⟨y0, y1, y2, y3, y4, y5, yf, yl⟩ := row6 hx
      clear hx
      clear hord hnil hown4 hb4 HOd hRR
      go_wp2_with fail
      refine HS4.out.mono ?_
      rintro e w5 ⟨vs, rfl, hsome, hnone, hb5, -⟩
      have Hc5 := hide (below2 Hc4.out hb5)
      have Hb5 := hide (below2 Hb4.out hb5)
      have HEv5 := hide (HEv4.out.below hb5)
      have HOr5 := hide (HOr4.out.below hb5)
      have Hsome := hide hsome
      have Hnone := hide hnone
      clear hsome hnone hb5 HS4
      obtain ⟨ce, hce⟩ : ∃ x, x = checkE (evsOf m) := ⟨_, rfl⟩
      rw [← hce] at Hord
      simp only [← hce]
      have Hce := hide hce
      clear hce
      by_cases h0 : ce = 0
      · subst h0
        have hol : o.length ≤ 6 := by
          have h1 := (Hord.out rfl).perm.length_eq
          unfold tookL at h1
          have h2 := List.length_filter_le (fun k => atOf (evsOf m) k != 0) (List.range (evsOf m).length)
          rw [List.length_range] at h2
          have h3 := evs_len m
          omega
        have HL5 := hide (HLe.out m vo (castL o) vr w5 Hc5.out HEv5.out (by rw [hcl]; exact HOr5.out) (by omega) (by omega) Hsm3.out)
        obtain ⟨⟨T1, T2⟩, hTT⟩ : ∃ R, R = legalC a ts b c (evsOf m) (castL o) := ⟨_, rfl⟩
        rw [← hTT] at HL5
        have HTT := hide hTT
        have hx := HBox.out w5 Hb5.out
        obtain ⟨y0, y1, y2, y3, y4, y5, yf, yl⟩ := row6 hx
        clear hx
        clear hTT
        go_wp2_with fail
        refine HL5.out.mono ?_
        rintro e w6 ⟨rfl, hb6⟩
        have Hc6 := hide (below2 Hc5.out hb6)
        have Hb6 := hide (below2 Hb5.out hb6)
        have HEv6 := hide (HEv5.out.below hb6)
        cases R1 with
        | none =>
          obtain ⟨q1, q2⟩ := some_total Hgood.out Hce.out.symm (by rw [evs_len]; exact hm6) HRR.out.symm
          have hv := Hnone.out rfl
          have q3 := q2 (castL o)
          rw [← HTT.out] at q3
          have b3 : (T2 != 0) = true := by simpa using q3
          subst hv q1
          clear hb6 HL5 q2 q3
          go_wp2_with fail
          refine (HAw.out _ Hc6.out).mono ?_
          rintro e w9 ⟨rfl, hb9⟩
          have Hb9 := hide (below2 Hc6.out hb9)
          clear hb9
          go_wp2
          go_ret
          exact ⟨by simp, Hb9.out⟩
        | some r =>
          obtain ⟨q1, q2⟩ := some_sound HRR.out.symm
          have hrd := (Hsome.out r rfl).below hb6
          have hlg := ((legalC_iff a ts b c (evsOf m) r).1 q2).2.2
          have hrl : r.length ≤ 6 := by
            have := rem_apart (p := r) ⟨hlg.whole.lt, hlg.whole.nd⟩
            rw [evs_len] at this
            omega
          have HL6 := hide (HLe.out m vo r vs w6 Hc6.out HEv6.out hrd (by omega) (by omega) Hsm3.out)
          obtain ⟨⟨V1, V2⟩, hVV⟩ : ∃ R, R = legalC a ts b c (evsOf m) r := ⟨_, rfl⟩
          rw [← hVV] at HL6 q2
          obtain rfl : V2 = 0 := q2
          subst q1
          have hx := HBox.out w6 Hb6.out
          obtain ⟨y0, y1, y2, y3, y4, y5, yf, yl⟩ := row6 hx
          clear hx
          clear hb6 HL5 hrd hlg hVV
          go_wp2_with fail
          refine HL6.out.mono ?_
          rintro e w7 ⟨rfl, hb7⟩
          have Hc7 := hide (below2 Hc6.out hb7)
          clear hb7 HL6
          go_wp2_with fail
          refine (HAw.out _ Hc7.out).mono ?_
          rintro e w9 ⟨rfl, hb9⟩
          have Hb9 := hide (below2 Hc7.out hb9)
          clear hb9
          go_wp2
          go_ret
          exact ⟨by simp, Hb9.out⟩
      · have hR : (R1, R2) = (none, ce) := HRR.out.trans (some_check Hgood.out (by rw [← Hce.out]; exact h0) |>.trans (by rw [← Hce.out]))
        obtain ⟨rfl, rfl⟩ : R1 = none ∧ R2 = ce := by simpa using hR
        have hv := Hnone.out rfl
        subst hv
        have b3 : (R2 != 0) = true := by simpa using h0
        go_wp2_with fail
        refine (HAw.out _ Hc5.out).mono ?_
        rintro e w9 ⟨rfl, hb9⟩
        have Hb9 := hide (below2 Hc5.out hb9)
        clear hb9
        go_wp2
        go_ret
        exact ⟨by simp, Hb9.out⟩
  · by_cases h1 : sb = true
    · subst h1
      by_cases k0 : cn ≤ 6
      · have j0 : ¬ (cn : Int) > 6 := by omega
        have k1 : ¬ en ≤ 20 := fun h => hok ⟨rfl, k0, h⟩
        have j1 : (en : Int) > 20 := by omega
        go_wp2_with fail
        refine (HAw.out _ Hc1.out).mono ?_
        rintro e w9 ⟨rfl, hb9⟩
        have Hb9 := hide (below2 Hc1.out hb9)
        clear hb9
        go_wp2
        go_ret
        exact ⟨by simp, Hb9.out⟩
      · have j0 : (cn : Int) > 6 := by omega
        go_wp2_with fail
        refine (HAw.out _ Hc1.out).mono ?_
        rintro e w9 ⟨rfl, hb9⟩
        have Hb9 := hide (below2 Hc1.out hb9)
        clear hb9
        go_wp2
        go_ret
        exact ⟨by simp, Hb9.out⟩
    · obtain rfl : sb = false := by simpa using h1
      go_wp2_with fail
      refine (HAw.out _ Hc1.out).mono ?_
      rintro e w9 ⟨rfl, hb9⟩
      have Hb9 := hide (below2 Hc1.out hb9)
      clear hb9
      go_wp2
      go_ret
      exact ⟨by simp, Hb9.out⟩

end Go.Proofs.YtkkflnmfghegnaaGreatDoor
