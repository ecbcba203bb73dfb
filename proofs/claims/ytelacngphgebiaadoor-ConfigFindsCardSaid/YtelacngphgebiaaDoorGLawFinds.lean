/-
  The walk of the law ConfigFinds: it answers true. Conditions: two configs, a text; the library's one variable that Split and Cut read holds an int.
-/
import Derived.Test.YtelacngphgebiaaDoorGFind
import Derived.Test.YtelacngphgebiaaDoorGLawParses
namespace Go.Proofs.YtelacngphgebiaaDoor
set_option pp.deepTerms true
set_option pp.maxSteps 1000000
open Go.RowKit

set_option maxRecDepth 100000 in
set_option maxHeartbeats 3200000 in
theorem lawfinds_any (a b c a' b' c' : Int) (ts ts' : List Tp) (u u' : Value) (x : ByteArray) (mx : Int) (w : World) (hr : Rd w u 3 ts.length (flatT ts)) (hr' : Rd w u' 3 ts'.length (flatT ts')) (hm : w.cell? ⟨0, 0, none⟩ = some (.int .i64 mx)) :
    Calls Tryd.prog 6 #[cfgV a u b c, cfgV a' u' b' c', .string x] w fun e w' => e = .returned (.bool true) ∧ Below w.heap.size w w' := by
  obtain ⟨A, cc, rfl, -, -, -⟩ := id hr.shape
  obtain ⟨A', cc', rfl, -, -, -⟩ := id hr'.shape
  have HFew := hide (fun w hr => few_any a b c ts (.slice A ts.length cc) w hr)
  have HFew' := hide (fun w hr => few_any a' b' c' ts' (.slice A' ts'.length cc') w hr)
  have HFind := hide (fun w hr => find_any a b c ts (.slice A ts.length cc) x w hr)
  have HRef := hide (fun w hr => reffind_any a b c ts (.slice A ts.length cc) x w hr)
  have HS1 := hide (fun w hr hr' => same_any a b c a' b' c' ts ts' (.slice A ts.length cc) (.slice A' ts'.length cc') w hr hr')
  have HS2 := hide (fun w hr => same_any a b c a b c ts ts (.slice A ts.length cc) (.slice A ts.length cc) w hr hr)
  have HS3 := hide (fun w hr hr' => refsame_any a b c a' b' c' ts ts' (.slice A ts.length cc) (.slice A' ts'.length cc') w hr hr')
  rw [sameS_self] at HS2
  obtain ⟨S, hS⟩ : ∃ S, S = sameS a ts b c a' ts' b' c' := ⟨_, rfl⟩
  rw [← hS] at HS1 HS3
  obtain ⟨R, hR⟩ : ∃ R, R = findS ts x.data.toList 0 := ⟨_, rfl⟩
  rw [← hR] at HFind HRef
  obtain ⟨f, hf⟩ : ∃ f, f = fewS ts := ⟨_, rfl⟩
  rw [← hf] at HFew
  obtain ⟨f', hf'⟩ : ∃ f, f = fewS ts' := ⟨_, rfl⟩
  rw [← hf'] at HFew'
  obtain ⟨n, hn⟩ : ∃ n, n = ts.length := ⟨_, rfl⟩
  obtain ⟨m, hm'⟩ : ∃ n, n = ts'.length := ⟨_, rfl⟩
  rw [← hn] at hr HFew HFind HRef HS1 HS2 HS3 ⊢
  rw [← hm'] at hr' HFew' HS1 HS3 ⊢
  clear hS hR hf hf' hn hm'
  have heqS : (S == S) = true := beq_self_eq_true _
  cases f with
  | false =>
    go_enter Tryd.func6, Tryd.ntmps6
    go_wp2_with fail
    have hB0 := alloc_old _ (.cells #[.int .i64 a', .slice A' m cc', .int .i64 b', .int .i64 c'] 24) _ _ (heap_alloc_new w (.cells #[.int .i64 a, .slice A n cc, .int .i64 b, .int .i64 c] 24))
    have hB1 := heap_alloc_new (w.alloc (.cells #[.int .i64 a, .slice A n cc, .int .i64 b, .int .i64 c] 24)) (.cells #[.int .i64 a', .slice A' m cc', .int .i64 b', .int .i64 c'] 24)
    rw [alloc_size] at hB1
    have hbX := below_new2 w (.cells #[.int .i64 a, .slice A n cc, .int .i64 b, .int .i64 c] 24) (.cells #[.int .i64 a', .slice A' m cc', .int .i64 b', .int .i64 c'] 24)
    generalize ((w.alloc (.cells #[.int .i64 a, .slice A n cc, .int .i64 b, .int .i64 c] 24)).alloc (.cells #[.int .i64 a', .slice A' m cc', .int .i64 b', .int .i64 c'] 24)) = X at *
    obtain ⟨c0, c1, c2, c3⟩ := cells4 hB0
    refine (HFew.out _ (hr.below hbX)).mono ?_
    rintro e w1 ⟨rfl, hb1⟩
    have hb01 := below2 hbX hb1
    go_wp2_with fail
    refine (awake_any mx _ (two_kept hb01 hm)).mono ?_
    rintro e w9 ⟨rfl, hb9⟩
    go_wp2
    go_ret
    exact ⟨by simp, below2 hb01 hb9⟩
  | true =>
    cases f' with
    | false =>
      go_enter Tryd.func6, Tryd.ntmps6
      go_wp2_with fail
      have hB0 := alloc_old _ (.cells #[.int .i64 a', .slice A' m cc', .int .i64 b', .int .i64 c'] 24) _ _ (heap_alloc_new w (.cells #[.int .i64 a, .slice A n cc, .int .i64 b, .int .i64 c] 24))
      have hB1 := heap_alloc_new (w.alloc (.cells #[.int .i64 a, .slice A n cc, .int .i64 b, .int .i64 c] 24)) (.cells #[.int .i64 a', .slice A' m cc', .int .i64 b', .int .i64 c'] 24)
      rw [alloc_size] at hB1
      have hbX := below_new2 w (.cells #[.int .i64 a, .slice A n cc, .int .i64 b, .int .i64 c] 24) (.cells #[.int .i64 a', .slice A' m cc', .int .i64 b', .int .i64 c'] 24)
      generalize ((w.alloc (.cells #[.int .i64 a, .slice A n cc, .int .i64 b, .int .i64 c] 24)).alloc (.cells #[.int .i64 a', .slice A' m cc', .int .i64 b', .int .i64 c'] 24)) = X at *
      obtain ⟨c0, c1, c2, c3⟩ := cells4 hB0
      refine (HFew.out _ (hr.below hbX)).mono ?_
      rintro e w1 ⟨rfl, hb1⟩
      have hb01 := below2 hbX hb1
      have hX0 : w.heap.size < X.heap.size := (Array.getElem?_eq_some_iff.1 hB0).1
      have hX1 : w.heap.size + 1 < X.heap.size := (Array.getElem?_eq_some_iff.1 hB1).1
      have hE1 := (hb1.block _ hX1).trans hB1
      have hE0 := (hb1.block _ hX0).trans hB0
      obtain ⟨d0, d1, d2, d3⟩ := cells4 hE1
      clear c0 c1 c2 c3
      go_wp2_with fail
      refine (HFew'.out _ (hr'.below hb01)).mono ?_
      rintro e w2 ⟨rfl, hb2⟩
      have hb02 := below2 hb01 hb2
      clear d0 d1 d2 d3
      go_wp2_with fail
      refine (awake_any mx _ (two_kept hb02 hm)).mono ?_
      rintro e w9 ⟨rfl, hb9⟩
      go_wp2
      go_ret
      exact ⟨by simp, below2 hb02 hb9⟩
    | true =>
      by_cases hx : 100 < x.size
      · have hd : decide ((100 : Int) < (x.size : Int)) = true := decide_eq_true (by omega)
        go_enter Tryd.func6, Tryd.ntmps6
        go_wp2_with fail
        have hB0 := alloc_old _ (.cells #[.int .i64 a', .slice A' m cc', .int .i64 b', .int .i64 c'] 24) _ _ (heap_alloc_new w (.cells #[.int .i64 a, .slice A n cc, .int .i64 b, .int .i64 c] 24))
        have hB1 := heap_alloc_new (w.alloc (.cells #[.int .i64 a, .slice A n cc, .int .i64 b, .int .i64 c] 24)) (.cells #[.int .i64 a', .slice A' m cc', .int .i64 b', .int .i64 c'] 24)
        rw [alloc_size] at hB1
        have hbX := below_new2 w (.cells #[.int .i64 a, .slice A n cc, .int .i64 b, .int .i64 c] 24) (.cells #[.int .i64 a', .slice A' m cc', .int .i64 b', .int .i64 c'] 24)
        generalize ((w.alloc (.cells #[.int .i64 a, .slice A n cc, .int .i64 b, .int .i64 c] 24)).alloc (.cells #[.int .i64 a', .slice A' m cc', .int .i64 b', .int .i64 c'] 24)) = X at *
        obtain ⟨c0, c1, c2, c3⟩ := cells4 hB0
        refine (HFew.out _ (hr.below hbX)).mono ?_
        rintro e w1 ⟨rfl, hb1⟩
        have hb01 := below2 hbX hb1
        have hX0 : w.heap.size < X.heap.size := (Array.getElem?_eq_some_iff.1 hB0).1
        have hX1 : w.heap.size + 1 < X.heap.size := (Array.getElem?_eq_some_iff.1 hB1).1
        have hE1 := (hb1.block _ hX1).trans hB1
        have hE0 := (hb1.block _ hX0).trans hB0
        obtain ⟨d0, d1, d2, d3⟩ := cells4 hE1
        clear c0 c1 c2 c3
        go_wp2_with fail
        refine (HFew'.out _ (hr'.below hb01)).mono ?_
        rintro e w2 ⟨rfl, hb2⟩
        have hb02 := below2 hb01 hb2
        clear d0 d1 d2 d3
        go_wp2_with fail
        refine (awake_any mx _ (two_kept hb02 hm)).mono ?_
        rintro e w9 ⟨rfl, hb9⟩
        go_wp2
        go_ret
        exact ⟨by simp, below2 hb02 hb9⟩
      · have hd : decide ((100 : Int) < (x.size : Int)) = false := decide_eq_false (by omega)
        by_cases hneg : R < 0
        · have hk : decide (R < 0) = true := decide_eq_true hneg
          rw [findV_neg hneg] at HFind
          go_enter Tryd.func6, Tryd.ntmps6
          go_wp2_with fail
          have hB0 := alloc_old _ (.cells #[.int .i64 a', .slice A' m cc', .int .i64 b', .int .i64 c'] 24) _ _ (heap_alloc_new w (.cells #[.int .i64 a, .slice A n cc, .int .i64 b, .int .i64 c] 24))
          have hB1 := heap_alloc_new (w.alloc (.cells #[.int .i64 a, .slice A n cc, .int .i64 b, .int .i64 c] 24)) (.cells #[.int .i64 a', .slice A' m cc', .int .i64 b', .int .i64 c'] 24)
          rw [alloc_size] at hB1
          have hbX := below_new2 w (.cells #[.int .i64 a, .slice A n cc, .int .i64 b, .int .i64 c] 24) (.cells #[.int .i64 a', .slice A' m cc', .int .i64 b', .int .i64 c'] 24)
          generalize ((w.alloc (.cells #[.int .i64 a, .slice A n cc, .int .i64 b, .int .i64 c] 24)).alloc (.cells #[.int .i64 a', .slice A' m cc', .int .i64 b', .int .i64 c'] 24)) = X at *
          obtain ⟨c0, c1, c2, c3⟩ := cells4 hB0
          refine (HFew.out _ (hr.below hbX)).mono ?_
          rintro e w1 ⟨rfl, hb1⟩
          have hb01 := below2 hbX hb1
          have hX0 : w.heap.size < X.heap.size := (Array.getElem?_eq_some_iff.1 hB0).1
          have hX1 : w.heap.size + 1 < X.heap.size := (Array.getElem?_eq_some_iff.1 hB1).1
          have hE1 := (hb1.block _ hX1).trans hB1
          have hE0 := (hb1.block _ hX0).trans hB0
          obtain ⟨d0, d1, d2, d3⟩ := cells4 hE1
          clear c0 c1 c2 c3
          go_wp2_with fail
          refine (HFew'.out _ (hr'.below hb01)).mono ?_
          rintro e w2 ⟨rfl, hb2⟩
          have hb02 := below2 hb01 hb2
          clear d0 d1 d2 d3
          have hF0 := (hb2.block _ (Nat.lt_of_lt_of_le hX0 hb1.size)).trans hE0
          have hF1 := (hb2.block _ (Nat.lt_of_lt_of_le hX1 hb1.size)).trans hE1
          have hS0 : w.heap.size < w2.heap.size := (Array.getElem?_eq_some_iff.1 hF0).1
          have hS1 : w.heap.size + 1 < w2.heap.size := (Array.getElem?_eq_some_iff.1 hF1).1
          obtain ⟨c0, c1, c2, c3⟩ := cells4 hF0
          go_wp2_with fail
          refine (HFind.out _ (hr.below hb02)).mono ?_
          rintro e w3 ⟨rfl, hb3⟩
          have hb03 := below2 hb02 hb3
          have hG0 := (hb3.block _ hS0).trans hF0
          have hG1 := (hb3.block _ hS1).trans hF1
          clear c0 c1 c2 c3
          obtain ⟨c0, c1, c2, c3⟩ := cells4 hG0
          go_wp2_with fail
          refine (HRef.out _ (hr.below hb03)).mono ?_
          rintro e w4 ⟨rfl, hb4⟩
          have hb04 := below2 hb03 hb4
          have hH0 := (hb4.block _ (Nat.lt_of_lt_of_le hS0 hb3.size)).trans hG0
          have hH1 := (hb4.block _ (Nat.lt_of_lt_of_le hS1 hb3.size)).trans hG1
          have hT0 : w.heap.size < w4.heap.size := (Array.getElem?_eq_some_iff.1 hH0).1
          have hT1 : w.heap.size + 1 < w4.heap.size := (Array.getElem?_eq_some_iff.1 hH1).1
          clear c0 c1 c2 c3
          obtain ⟨c0, c1, c2, c3⟩ := cells4 hH0
          obtain ⟨d0, d1, d2, d3⟩ := cells4 hH1
          clear hB0 hB1 hE0 hE1 hF0 hF1 hG0 hG1 hH0 hH1 hX0 hX1 hS0 hS1
          go_wp2_with fail
          refine wp_region_ext (by kernel_rfl) (by kernel_rfl) ?_
          repeat (first
            | go_big_quiet_skip
            | (go_big_quiet_want
               first
                 | (apply quiet_val
                    · intro wq hq
                      have hcq := hq.cells
                      have hzq := hq.lift
                      go_simp
                      try go_bits
                      first | done | with_reducible rfl
                    (try simp only [Act.put, List.setIfInBounds_toArray, List.set_cons_zero, List.set_cons_succ])
                    go_big_quiet_on)
                 | (apply quiet_call
                    · intro wq hq
                      have hcq := hq.cells
                      have hzq := hq.lift
                      go_simp
                      first
                        | ((go_at_call 21; with_reducible exact ((HS1.out wq (hr.below (below2 hb04 hq.below)) (hr'.below (below2 hb04 hq.below))).mono fun e w' hp => ⟨hp.1, hq.call hp.2⟩)))
                        | ((go_at_call 21; with_reducible exact ((HS2.out wq (hr.below (below2 hb04 hq.below))).mono fun e w' hp => ⟨hp.1, hq.call hp.2⟩)))
                        | ((go_at_call 18; exact ((HS3.out wq (hr.below (below2 hb04 hq.below)) (hr'.below (below2 hb04 hq.below))).mono fun e w' hp => ⟨hp.1, hq.call hp.2⟩)))
                        | ((go_at_call 11; exact ((awake_any mx wq (two_kept (below2 hb04 hq.below) hm)).mono fun e w' hp => ⟨hp.1, hq.call hp.2⟩)))
                    (try simp only [Act.put, List.setIfInBounds_toArray, List.set_cons_zero, List.set_cons_succ])
                    go_big_quiet_on)))
          refine wpQuiet_nil ?_
          intro w9 hq9
          go_wp2
          go_ret
          exact ⟨by simp, below2 hb04 hq9.below⟩
        · have hk : decide (R < 0) = false := decide_eq_false hneg
          rw [findV_pos hneg] at HFind
          have hne : (R != R) = false := by simp
          go_enter Tryd.func6, Tryd.ntmps6
          go_wp2_with fail
          have hB0 := alloc_old _ (.cells #[.int .i64 a', .slice A' m cc', .int .i64 b', .int .i64 c'] 24) _ _ (heap_alloc_new w (.cells #[.int .i64 a, .slice A n cc, .int .i64 b, .int .i64 c] 24))
          have hB1 := heap_alloc_new (w.alloc (.cells #[.int .i64 a, .slice A n cc, .int .i64 b, .int .i64 c] 24)) (.cells #[.int .i64 a', .slice A' m cc', .int .i64 b', .int .i64 c'] 24)
          rw [alloc_size] at hB1
          have hbX := below_new2 w (.cells #[.int .i64 a, .slice A n cc, .int .i64 b, .int .i64 c] 24) (.cells #[.int .i64 a', .slice A' m cc', .int .i64 b', .int .i64 c'] 24)
          generalize ((w.alloc (.cells #[.int .i64 a, .slice A n cc, .int .i64 b, .int .i64 c] 24)).alloc (.cells #[.int .i64 a', .slice A' m cc', .int .i64 b', .int .i64 c'] 24)) = X at *
          obtain ⟨c0, c1, c2, c3⟩ := cells4 hB0
          refine (HFew.out _ (hr.below hbX)).mono ?_
          rintro e w1 ⟨rfl, hb1⟩
          have hb01 := below2 hbX hb1
          have hX0 : w.heap.size < X.heap.size := (Array.getElem?_eq_some_iff.1 hB0).1
          have hX1 : w.heap.size + 1 < X.heap.size := (Array.getElem?_eq_some_iff.1 hB1).1
          have hE1 := (hb1.block _ hX1).trans hB1
          have hE0 := (hb1.block _ hX0).trans hB0
          obtain ⟨d0, d1, d2, d3⟩ := cells4 hE1
          clear c0 c1 c2 c3
          go_wp2_with fail
          refine (HFew'.out _ (hr'.below hb01)).mono ?_
          rintro e w2 ⟨rfl, hb2⟩
          have hb02 := below2 hb01 hb2
          clear d0 d1 d2 d3
          have hF0 := (hb2.block _ (Nat.lt_of_lt_of_le hX0 hb1.size)).trans hE0
          have hF1 := (hb2.block _ (Nat.lt_of_lt_of_le hX1 hb1.size)).trans hE1
          have hS0 : w.heap.size < w2.heap.size := (Array.getElem?_eq_some_iff.1 hF0).1
          have hS1 : w.heap.size + 1 < w2.heap.size := (Array.getElem?_eq_some_iff.1 hF1).1
          obtain ⟨c0, c1, c2, c3⟩ := cells4 hF0
          go_wp2_with fail
          refine (HFind.out _ (hr.below hb02)).mono ?_
          rintro e w3 ⟨rfl, hb3⟩
          have hb03 := below2 hb02 hb3
          have hG0 := (hb3.block _ hS0).trans hF0
          have hG1 := (hb3.block _ hS1).trans hF1
          clear c0 c1 c2 c3
          obtain ⟨c0, c1, c2, c3⟩ := cells4 hG0
          go_wp2_with fail
          refine (HRef.out _ (hr.below hb03)).mono ?_
          rintro e w4 ⟨rfl, hb4⟩
          have hb04 := below2 hb03 hb4
          have hH0 := (hb4.block _ (Nat.lt_of_lt_of_le hS0 hb3.size)).trans hG0
          have hH1 := (hb4.block _ (Nat.lt_of_lt_of_le hS1 hb3.size)).trans hG1
          have hT0 : w.heap.size < w4.heap.size := (Array.getElem?_eq_some_iff.1 hH0).1
          have hT1 : w.heap.size + 1 < w4.heap.size := (Array.getElem?_eq_some_iff.1 hH1).1
          clear c0 c1 c2 c3
          obtain ⟨c0, c1, c2, c3⟩ := cells4 hH0
          obtain ⟨d0, d1, d2, d3⟩ := cells4 hH1
          clear hB0 hB1 hE0 hE1 hF0 hF1 hG0 hG1 hH0 hH1 hX0 hX1 hS0 hS1
          go_wp2_with fail
          refine wp_region_ext (by kernel_rfl) (by kernel_rfl) ?_
          repeat (first
            | go_big_quiet_skip
            | (go_big_quiet_want
               first
                 | (apply quiet_val
                    · intro wq hq
                      have hcq := hq.cells
                      have hzq := hq.lift
                      go_simp
                      try go_bits
                      first | done | with_reducible rfl
                    (try simp only [Act.put, List.setIfInBounds_toArray, List.set_cons_zero, List.set_cons_succ])
                    go_big_quiet_on)
                 | (apply quiet_call
                    · intro wq hq
                      have hcq := hq.cells
                      have hzq := hq.lift
                      go_simp
                      first
                        | ((go_at_call 21; with_reducible exact ((HS1.out wq (hr.below (below2 hb04 hq.below)) (hr'.below (below2 hb04 hq.below))).mono fun e w' hp => ⟨hp.1, hq.call hp.2⟩)))
                        | ((go_at_call 21; with_reducible exact ((HS2.out wq (hr.below (below2 hb04 hq.below))).mono fun e w' hp => ⟨hp.1, hq.call hp.2⟩)))
                        | ((go_at_call 18; exact ((HS3.out wq (hr.below (below2 hb04 hq.below)) (hr'.below (below2 hb04 hq.below))).mono fun e w' hp => ⟨hp.1, hq.call hp.2⟩)))
                        | ((go_at_call 11; exact ((awake_any mx wq (two_kept (below2 hb04 hq.below) hm)).mono fun e w' hp => ⟨hp.1, hq.call hp.2⟩)))
                    (try simp only [Act.put, List.setIfInBounds_toArray, List.set_cons_zero, List.set_cons_succ])
                    go_big_quiet_on)))
          refine wpQuiet_nil ?_
          intro w9 hq9
          go_wp2
          go_ret
          exact ⟨by simp, below2 hb04 hq9.below⟩

end Go.Proofs.YtelacngphgebiaaDoor
