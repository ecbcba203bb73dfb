/-
  The walk of the law ConfigBack: it answers true. Conditions: a config, a text; the library's one variable that Split and Cut read holds an int.
-/
import Derived.Test.YtelacngphgebiaaDoorGBack
import Derived.Test.YtelacngphgebiaaDoorGFind
import Derived.Test.YtelacngphgebiaaDoorGLawParses
namespace Go.Proofs.YtelacngphgebiaaDoor
set_option pp.deepTerms true
set_option pp.maxSteps 1000000
open Go.RowKit

theorem topicsGo_code : ∀ (ts : List Tp) (k : Nat) (seen : List (List UInt8)), (topicsGo ts k seen).2 = 0 → topicsGo ts k seen = (0, 0) := fun ts k seen => (topicsGo_bd ts k seen).2.2

theorem parse_code {l : List UInt8} {n c : Int} (h : parseS l = .error (n, c)) : c ≠ 0 := by
  unfold parseS at h
  split at h
  · cases h; decide
  · split at h
    · cases h; decide
    · split at h
      · cases h; decide
      · split at h
        · cases h
        · rename_i hne
          cases h
          exact fun h0 => hne ((check_bd _ _ _ _).2.2 h0)

theorem field_code (F1 F2 : Int) (w : World) : (Instr.field 29 (.agg #[.int .i64 F1, .int .i64 F2]) 1).run Tryd.prog w = .ok (.int .i64 F2) w := by
  kernel_rfl

set_option maxRecDepth 100000 in
set_option maxHeartbeats 3200000 in
theorem lawback_any (a b c : Int) (ts : List Tp) (u : Value) (s : ByteArray) (mx : Int) (w : World) (hr : Rd w u 3 ts.length (flatT ts)) (hm : w.cell? ⟨0, 0, none⟩ = some (.int .i64 mx)) :
    Calls Tryd.prog 9 #[cfgV a u b c, .string s] w fun e w' => e = .returned (.bool true) ∧ Below w.heap.size w w' := by
  obtain ⟨A, cc, rfl, hnc, hcm, -⟩ := id hr.shape
  have hb0 := below_new w (.cells #[.int .i64 a, .slice A ts.length cc, .int .i64 b, .int .i64 c] 24)
  have HFew := hide (fun w hr => few_any a b c ts (.slice A ts.length cc) w hr)
  by_cases hf : fewS ts = true
  · obtain ⟨h80, h40⟩ := few_true hf
    rw [hf] at HFew
    by_cases hs : 4000 < s.size
    · have hd : decide ((4000 : Int) < (s.size : Int)) = true := decide_eq_true (by omega)
      clear hf h80 h40 hs
      go_enter Tryd.func9, Tryd.ntmps9
      go_wp2_with fail
      refine (HFew.out _ (hr.below hb0)).mono ?_
      rintro e w1 ⟨rfl, hb1⟩
      have hb01 := below2 hb0 hb1
      go_wp2_with fail
      refine (awake_any mx _ (two_kept hb01 hm)).mono ?_
      rintro e w9 ⟨rfl, hb9⟩
      go_wp2
      go_ret
      exact ⟨by simp, below2 hb01 hb9⟩
    · have hd : decide ((4000 : Int) < (s.size : Int)) = false := decide_eq_false (by omega)
      have hnm : ∀ t ∈ ts, t.1.size ≤ 100000 := fun t ht => by have := h40 t ht; omega
      have HPr := hide (fun w hr => print_any a b c ts (.slice A ts.length cc) w hr hnm)
      have HCk := hide (fun w hr => check_any a b c ts (.slice A ts.length cc) w hr hnm)
      have HPs := hide (fun w hm => parse_any s mx w (.inl (by omega)) (by omega) hm)
      have hss : (⟨s.data.toList.toArray⟩ : ByteArray) = s := (ba_of rfl).symm
      by_cases h00 : checkS a ts b c = (0, 0)
      · obtain ⟨hp1, hp2⟩ := parse_text h00
        rw [printS_ok h00] at HPr
        obtain ⟨T, hT⟩ : ∃ T : ByteArray, T = ⟨(textS a.toNat ts b.toNat c.toNat).toArray⟩ := ⟨_, rfl⟩
        have hTd : T.data.toList = textS a.toNat ts b.toNat c.toNat := by rw [hT]
        have hTs : T.size ≤ 4000 := by rw [Lib.size_eq, hTd]; exact hp2
        simp only [printV, ← hT] at HPr
        have HPt := hide (fun w hm => parse_any T mx w (.inl hTs) (by omega) hm)
        have HPe := hide (show parseS T.data.toList = .ok ⟨a, b, c, ts⟩ by rw [hTd]; exact hp1)
        cases hps : parseS s.data.toList with
        | error x =>
          obtain ⟨pn, pc⟩ := x
          have hpc : (pc != 0) = true := by simpa using parse_code hps
          have HSe := hide hps
          clear hf h80 h40 hs hnm hp1 hp2 hT hTd hTs hps hss h00
          go_enter Tryd.func9, Tryd.ntmps9
          go_wp2_with fail
          refine (HFew.out _ (hr.below hb0)).mono ?_
          rintro e w1 ⟨rfl, hb1⟩
          have hb01 := below2 hb0 hb1
          have hB1 := (hb1.block w.heap.size (by simp)).trans (heap_alloc_new w _)
          have hN1 : w.heap.size < w1.heap.size := (Array.getElem?_eq_some_iff.1 hB1).1
          obtain ⟨c0, c1, c2, c3⟩ := cells4 hB1
          go_wp2_with fail
          refine (HPr.out _ (hr.below hb01)).mono ?_
          rintro e w2 ⟨rfl, hb2⟩
          have hb02 := below2 hb01 hb2
          have hB2 := (hb2.block w.heap.size hN1).trans hB1
          have hN2 : w.heap.size < w2.heap.size := (Array.getElem?_eq_some_iff.1 hB2).1
          clear c0 c1 c2 c3
          obtain ⟨c0, c1, c2, c3⟩ := cells4 hB2
          go_wp2_with fail
          refine (HPt.out _ (two_kept hb02 hm)).mono ?_
          rintro e w3 hp
          have hb3 := hp.1
          have hp2 := hp.2
          rw [HPe.out] at hp2
          obtain ⟨v3, rfl, hr3⟩ := hp2
          clear hp
          obtain ⟨A3, cc3, rfl, -, -, -⟩ := id hr3.shape
          have hb03 := below2 hb02 hb3
          have hB3 := (hb3.block w.heap.size hN2).trans hB2
          have hN3 : w.heap.size < w3.heap.size := (Array.getElem?_eq_some_iff.1 hB3).1
          clear c0 c1 c2 c3
          obtain ⟨c0, c1, c2, c3⟩ := cells4 hB3
          have hD3 := below_new w3 (.cells #[.int .i64 a, .slice A3 ts.length cc3, .int .i64 b, .int .i64 c] 24)
          have hb03a := below2 hb03 hD3
          go_wp2_with fail
          refine (same_any a b c a b c ts ts (.slice A ts.length cc) (.slice A3 ts.length cc3) _ (hr.below hb03a) (hr3.below hD3)).mono ?_
          rintro e w4 ⟨rfl, hb4⟩
          rw [sameS_self]
          have hbZ := below2 hb03a hb4
          go_wp2_with fail
          refine (HPs.out _ (two_kept hbZ hm)).mono ?_
          rintro e w5 hp
          have hb5 := hp.1
          have hp2 := hp.2
          rw [HSe.out] at hp2
          simp only at hp2
          subst hp2
          clear hp
          have hbE := below2 (below2 hbZ hb5) (below_new w5 (.cells #[.int .i64 0, .slice none 0 0, .int .i64 0, .int .i64 0] 24))
          go_wp2_with fail
          refine (awake_any mx _ (two_kept hbE hm)).mono ?_
          rintro e w9 ⟨rfl, hb9⟩
          go_wp2
          go_ret
          exact ⟨by simp, below2 hbE hb9⟩
        | ok st =>
          obtain ⟨hck, htx⟩ := parse_back hps
          obtain ⟨hgood, -, -⟩ := topicsGo_zero _ 0 [] (check_zero hck).2.2.2
          have HPd := hide (fun v w hr => print_any st.a st.b st.c st.ts v w hr (fun t ht => by have := name_len (hgood t ht).1; rw [Lib.size_eq]; omega))
          rw [printS_ok hck, htx, printV] at HPd
          simp only [hss] at HPd
          have HSo := hide hps
          clear hf h80 h40 hs hnm hp1 hp2 hT hTd hTs hps hss h00 hck htx hgood
          go_enter Tryd.func9, Tryd.ntmps9
          go_wp2_with fail
          refine (HFew.out _ (hr.below hb0)).mono ?_
          rintro e w1 ⟨rfl, hb1⟩
          have hb01 := below2 hb0 hb1
          have hB1 := (hb1.block w.heap.size (by simp)).trans (heap_alloc_new w _)
          have hN1 : w.heap.size < w1.heap.size := (Array.getElem?_eq_some_iff.1 hB1).1
          obtain ⟨c0, c1, c2, c3⟩ := cells4 hB1
          go_wp2_with fail
          refine (HPr.out _ (hr.below hb01)).mono ?_
          rintro e w2 ⟨rfl, hb2⟩
          have hb02 := below2 hb01 hb2
          have hB2 := (hb2.block w.heap.size hN1).trans hB1
          have hN2 : w.heap.size < w2.heap.size := (Array.getElem?_eq_some_iff.1 hB2).1
          clear c0 c1 c2 c3
          obtain ⟨c0, c1, c2, c3⟩ := cells4 hB2
          go_wp2_with fail
          refine (HPt.out _ (two_kept hb02 hm)).mono ?_
          rintro e w3 hp
          have hb3 := hp.1
          have hp2 := hp.2
          rw [HPe.out] at hp2
          obtain ⟨v3, rfl, hr3⟩ := hp2
          clear hp
          obtain ⟨A3, cc3, rfl, -, -, -⟩ := id hr3.shape
          have hb03 := below2 hb02 hb3
          have hB3 := (hb3.block w.heap.size hN2).trans hB2
          have hN3 : w.heap.size < w3.heap.size := (Array.getElem?_eq_some_iff.1 hB3).1
          clear c0 c1 c2 c3
          obtain ⟨c0, c1, c2, c3⟩ := cells4 hB3
          have hD3 := below_new w3 (.cells #[.int .i64 a, .slice A3 ts.length cc3, .int .i64 b, .int .i64 c] 24)
          have hb03a := below2 hb03 hD3
          go_wp2_with fail
          refine (same_any a b c a b c ts ts (.slice A ts.length cc) (.slice A3 ts.length cc3) _ (hr.below hb03a) (hr3.below hD3)).mono ?_
          rintro e w4 ⟨rfl, hb4⟩
          rw [sameS_self]
          have hbZ := below2 hb03a hb4
          go_wp2_with fail
          refine (HPs.out _ (two_kept hbZ hm)).mono ?_
          rintro e w5 hp
          have hb5 := hp.1
          have hp2 := hp.2
          rw [HSo.out] at hp2
          obtain ⟨v5, rfl, hr5⟩ := hp2
          clear hp
          obtain ⟨A5, cc5, rfl, -, -, -⟩ := id hr5.shape
          have hbE := below2 (below2 hbZ hb5) (below_new w5 (.cells #[.int .i64 st.a, .slice A5 st.ts.length cc5, .int .i64 st.b, .int .i64 st.c] 24))
          go_wp2_with fail
          refine (HPd.out (.slice A5 st.ts.length cc5) _ (hr5.below (below_new w5 _))).mono ?_
          rintro e w6 ⟨rfl, hb6⟩
          have hbF := below2 hbE hb6
          go_wp2_with fail
          refine (awake_any mx _ (two_kept hbF hm)).mono ?_
          rintro e w9 ⟨rfl, hb9⟩
          go_wp2
          go_ret
          exact ⟨by simp, below2 hbF hb9⟩
      · rw [printS_bad h00] at HPr
        obtain ⟨F, hF⟩ : ∃ F, F = checkS a ts b c := ⟨_, rfl⟩
        have hbd := check_bd a ts b c
        rw [← hF] at HCk HPr hbd h00
        have hF2 : F.2 ≠ 0 := fun h => h00 (hbd.2.2 h)
        obtain ⟨F1, F2⟩ := F
        have hF2' : (F2 == 0) = false := beq_eq_false_iff_ne.2 hF2
        have hF3 : (F2 != F2) = false := by simp
        simp only [printV] at HPr
        simp only [faultV] at HCk
        have hfield := field_code F1 F2
        cases hps : parseS s.data.toList with
        | error x =>
          obtain ⟨pn, pc⟩ := x
          have hpc : (pc != 0) = true := by simpa using parse_code hps
          have HSe := hide hps
          clear hf h80 h40 hs hnm hps hss h00 hF hbd hF2
          go_enter Tryd.func9, Tryd.ntmps9
          go_wp2_with fail
          refine (HFew.out _ (hr.below hb0)).mono ?_
          rintro e w1 ⟨rfl, hb1⟩
          have hb01 := below2 hb0 hb1
          have hB1 := (hb1.block w.heap.size (by simp)).trans (heap_alloc_new w _)
          have hN1 : w.heap.size < w1.heap.size := (Array.getElem?_eq_some_iff.1 hB1).1
          obtain ⟨c0, c1, c2, c3⟩ := cells4 hB1
          go_wp2_with fail
          refine (HPr.out _ (hr.below hb01)).mono ?_
          rintro e w2 ⟨rfl, hb2⟩
          have hb02 := below2 hb01 hb2
          have hB2 := (hb2.block w.heap.size hN1).trans hB1
          have hN2 : w.heap.size < w2.heap.size := (Array.getElem?_eq_some_iff.1 hB2).1
          clear c0 c1 c2 c3
          obtain ⟨c0, c1, c2, c3⟩ := cells4 hB2
          go_wp2_with fail
          refine (HCk.out _ (hr.below hb02)).mono ?_
          rintro e w4 ⟨rfl, hb4⟩
          have hbZ := below2 hb02 hb4
          clear c0 c1 c2 c3
          go_wp2_with fail
          refine (HPs.out _ (two_kept hbZ hm)).mono ?_
          rintro e w5 hp
          have hb5 := hp.1
          have hp2 := hp.2
          rw [HSe.out] at hp2
          simp only at hp2
          subst hp2
          clear hp
          have hbE := below2 (below2 hbZ hb5) (below_new w5 (.cells #[.int .i64 0, .slice none 0 0, .int .i64 0, .int .i64 0] 24))
          go_wp2_with fail
          refine (awake_any mx _ (two_kept hbE hm)).mono ?_
          rintro e w9 ⟨rfl, hb9⟩
          go_wp2
          go_ret
          exact ⟨by simp, below2 hbE hb9⟩
        | ok st =>
          obtain ⟨hck, htx⟩ := parse_back hps
          obtain ⟨hgood, -, -⟩ := topicsGo_zero _ 0 [] (check_zero hck).2.2.2
          have HPd := hide (fun v w hr => print_any st.a st.b st.c st.ts v w hr (fun t ht => by have := name_len (hgood t ht).1; rw [Lib.size_eq]; omega))
          rw [printS_ok hck, htx, printV] at HPd
          simp only [hss] at HPd
          have HSo := hide hps
          clear hf h80 h40 hs hnm hps hss h00 hF hbd hF2 hck htx hgood
          go_enter Tryd.func9, Tryd.ntmps9
          go_wp2_with fail
          refine (HFew.out _ (hr.below hb0)).mono ?_
          rintro e w1 ⟨rfl, hb1⟩
          have hb01 := below2 hb0 hb1
          have hB1 := (hb1.block w.heap.size (by simp)).trans (heap_alloc_new w _)
          have hN1 : w.heap.size < w1.heap.size := (Array.getElem?_eq_some_iff.1 hB1).1
          obtain ⟨c0, c1, c2, c3⟩ := cells4 hB1
          go_wp2_with fail
          refine (HPr.out _ (hr.below hb01)).mono ?_
          rintro e w2 ⟨rfl, hb2⟩
          have hb02 := below2 hb01 hb2
          have hB2 := (hb2.block w.heap.size hN1).trans hB1
          have hN2 : w.heap.size < w2.heap.size := (Array.getElem?_eq_some_iff.1 hB2).1
          clear c0 c1 c2 c3
          obtain ⟨c0, c1, c2, c3⟩ := cells4 hB2
          go_wp2_with fail
          refine (HCk.out _ (hr.below hb02)).mono ?_
          rintro e w4 ⟨rfl, hb4⟩
          have hbZ := below2 hb02 hb4
          clear c0 c1 c2 c3
          go_wp2_with fail
          refine (HPs.out _ (two_kept hbZ hm)).mono ?_
          rintro e w5 hp
          have hb5 := hp.1
          have hp2 := hp.2
          rw [HSo.out] at hp2
          obtain ⟨v5, rfl, hr5⟩ := hp2
          clear hp
          obtain ⟨A5, cc5, rfl, -, -, -⟩ := id hr5.shape
          have hbE := below2 (below2 hbZ hb5) (below_new w5 (.cells #[.int .i64 st.a, .slice A5 st.ts.length cc5, .int .i64 st.b, .int .i64 st.c] 24))
          go_wp2_with fail
          refine (HPd.out (.slice A5 st.ts.length cc5) _ (hr5.below (below_new w5 _))).mono ?_
          rintro e w6 ⟨rfl, hb6⟩
          have hbF := below2 hbE hb6
          go_wp2_with fail
          refine (awake_any mx _ (two_kept hbF hm)).mono ?_
          rintro e w9 ⟨rfl, hb9⟩
          go_wp2
          go_ret
          exact ⟨by simp, below2 hbF hb9⟩
  · have hff : fewS ts = false := by simpa using hf
    rw [hff] at HFew
    clear hf hff
    go_enter Tryd.func9, Tryd.ntmps9
    go_wp2_with fail
    refine (HFew.out _ (hr.below hb0)).mono ?_
    rintro e w1 ⟨rfl, hb1⟩
    have hb01 := below2 hb0 hb1
    go_wp2_with fail
    refine (awake_any mx _ (two_kept hb01 hm)).mono ?_
    rintro e w9 ⟨rfl, hb9⟩
    go_wp2
    go_ret
    exact ⟨by simp, below2 hb01 hb9⟩

end Go.Proofs.YtelacngphgebiaaDoor
