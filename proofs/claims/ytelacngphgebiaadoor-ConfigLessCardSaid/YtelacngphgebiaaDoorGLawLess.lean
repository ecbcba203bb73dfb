/-
  The walk of the law ConfigLess: it answers true. Conditions: a config, a number; the library's one variable that Split and Cut read holds an int.
-/
import Derived.Test.YtelacngphgebiaaDoorGLess
import Derived.Test.YtelacngphgebiaaDoorGLawParses
namespace Go.Proofs.YtelacngphgebiaaDoor
set_option pp.deepTerms true
set_option pp.maxSteps 1000000
open Go.RowKit

theorem slice_tail (b o n cc k : Nat) (h : k + 1 ≤ n) (hc : n ≤ cc) (hm : cc ≤ maxLen) : ∃ o2 c2, (∀ w, (Instr.sliceAt 22 (.slice (some ⟨b, o, none⟩) n cc) (some (.int .i64 ((k : Int) + 1))) none none).run Tryd.prog w = .ok (.slice (some ⟨b, o2, none⟩) (n - (k + 1)) c2) w) ∧ (k + 1 < n → o2 = o + (k + 1) * 3) := by
  have h1 : (k : Int) + 1 ≤ (n : Int) := by omega
  have h2 : (0 : Int) ≤ (k : Int) + 1 := by omega
  have h3 : (k : Int) + 1 ≤ (cc : Int) := by omega
  have h4 : (n : Int) ≤ (cc : Int) := by omega
  by_cases hcap : cc = k + 1
  · refine ⟨o, 0, fun w => ?_, fun h => by omega⟩
    subst hcap
    go_simp
  · refine ⟨o + (k + 1) * 3, cc - (k + 1), fun w => ?_, fun _ => rfl⟩
    have h5 : ¬ cc - (k + 1) = 0 := by omega
    have h6 : ¬ k + 1 = cc := by omega
    go_simp

set_option maxRecDepth 100000 in
set_option maxHeartbeats 3200000 in
theorem lawless_any (a b c : Int) (ts : List Tp) (u : Value) (i : Int) (mx : Int) (w : World) (hr : Rd w u 3 ts.length (flatT ts)) (hm : w.cell? ⟨0, 0, none⟩ = some (.int .i64 mx)) :
    Calls Tryd.prog 7 #[cfgV a u b c, .int .i64 i] w fun e w' => e = .returned (.bool true) ∧ Below w.heap.size w w' := by
  obtain ⟨i0, hi, hz0, hz1, hz2⟩ := info_parts Tryd.infoTopic
  obtain ⟨A, cc, rfl, hnc, hcm, hopen⟩ := id hr.shape
  have hb0 := below_new w (.cells #[.int .i64 a, .slice A ts.length cc, .int .i64 b, .int .i64 c] 24)
  have HFew := hide (fun w hr => few_any a b c ts (.slice A ts.length cc) w hr)
  have hneq := neq_fault
  by_cases hf : fewS ts = true
  · obtain ⟨h80, h40⟩ := few_true hf
    rw [hf] at HFew
    have hnm : ∀ t ∈ ts, t.1.size ≤ 100000 := fun t ht => by have := h40 t ht; omega
    have HCk := hide (fun w hr => check_any a b c ts (.slice A ts.length cc) w hr hnm)
    by_cases h00 : checkS a ts b c = (0, 0)
    · rw [h00] at HCk
      by_cases hineg : i < 0
      · have hd : decide (i < 0) = true := decide_eq_true hineg
        clear hf h80 h40 hnm h00 hineg hopen
        go_enter Tryd.func7, Tryd.ntmps7
        go_wp2_with fail
        refine (HFew.out _ (hr.below hb0)).mono ?_
        rintro e w1 ⟨rfl, hb1⟩
        have hb01 := below2 hb0 hb1
        have hB1 := (hb1.block w.heap.size (by simp)).trans (heap_alloc_new w _)
        have hN1 : w.heap.size < w1.heap.size := (Array.getElem?_eq_some_iff.1 hB1).1
        obtain ⟨c0, c1, c2, c3⟩ := cells4 hB1
        go_wp2_with fail
        refine (HCk.out _ (hr.below hb01)).mono ?_
        rintro e w2 ⟨rfl, hb2⟩
        have hb02 := below2 hb01 hb2
        have hB2 := (hb2.block w.heap.size hN1).trans hB1
        have hN2 : w.heap.size < w2.heap.size := (Array.getElem?_eq_some_iff.1 hB2).1
        clear c0 c1 c2 c3
        obtain ⟨c0, c1, c2, c3⟩ := cells4 hB2
        go_wp2_with fail
        refine (awake_any mx _ (two_kept hb02 hm)).mono ?_
        rintro e w9 ⟨rfl, hb9⟩
        go_wp2
        go_ret
        exact ⟨by simp, below2 hb02 hb9⟩
      · have hd : decide (i < 0) = false := decide_eq_false hineg
        obtain ⟨k, rfl⟩ : ∃ k : Nat, i = k := ⟨i.toNat, by omega⟩
        by_cases hk : k < ts.length
        · have hd2 : decide (ts.length ≤ k) = false := decide_eq_false (by omega)
          obtain ⟨hq1, ⟨hl1, hl64⟩, hq3, hgo⟩ := check_zero h00
          obtain ⟨hgood, -, hnod⟩ := topicsGo_zero ts 0 [] hgo
          obtain ⟨bk, o, rfl, hbk, hcell⟩ := hopen (by omega)
          have Hcell := hide hcell
          obtain ⟨x, hx⟩ : ∃ x : ByteArray, x = ts[k].1 := ⟨_, rfl⟩
          have hxn : x.data.toList = nmOf ts[k] := by rw [hx, nmOf]
          obtain ⟨hx0, hx1, hx2⟩ := flatT_at ts k hk
          obtain ⟨y1, hy1⟩ : ∃ y : Int, y = ts[k].2.1 := ⟨_, rfl⟩
          obtain ⟨y2, hy2⟩ : ∃ y : Int, y = ts[k].2.2 := ⟨_, rfl⟩
          have p0 : w.cell? ⟨bk, o + k * 3, none⟩ = some (.string x) := by rw [hx]; exact hcell _ _ hx0
          have p1 : w.cell? ⟨bk, o + k * 3 + 1, none⟩ = some (.int .i64 y1) := by rw [hy1]; exact hcell _ _ hx1
          have p2 : w.cell? ⟨bk, o + k * 3 + 2, none⟩ = some (.int .i64 y2) := by rw [hy2]; exact hcell _ _ hx2
          have Hxt := hide (show ts[k] = (x, y1, y2) by rw [hx, hy1, hy2])
          have HFind := hide (fun w hr => find_any a b c ts (.slice (some ⟨bk, o, none⟩) ts.length cc) x w hr)
          rw [hxn, find_here hk hnod, findV_pos (by omega)] at HFind
          obtain ⟨n, hn⟩ : ∃ n, n = ts.length := ⟨_, rfl⟩
          rw [← hn] at hr hb0 HFew HCk HFind hd2 hl64 hl1 hk hnc ⊢
          have Hn := hide hn
          have hkn0 : (0 : Int) ≤ (k : Int) := by omega
          have hkn1 : (k : Int) ≤ (n : Int) := by omega
          have hkn2 : (k : Int) + 1 ≤ (n : Int) := by omega
          have hkc : (k : Int) ≤ (cc : Int) := by omega
          have hwk : IntKind.i64.wrap ((k : Int) + 1) = (k : Int) + 1 := by rw [IntKind.wrap_i64]; omega
          obtain ⟨d, hdd⟩ : ∃ d, d = n - (k + 1) := ⟨_, rfl⟩
          obtain ⟨o2, c2', hslice, ho2⟩ := slice_tail bk o n cc k (by omega) hnc hcm
          rw [← hdd] at hslice
          have hml : (lessT ts k).length = k + d := by rw [lessT_len ts k (by omega)]; have := Hn.out; omega
          have hnmL : ∀ t ∈ lessT ts k, t.1.size ≤ 100000 := fun t ht => hnm t (less_sub ht)
          obtain ⟨TM, hTM⟩ : ∃ TM : List Tp, TM = ts ++ [ts[k]] := ⟨_, rfl⟩
          have hnmM : ∀ t ∈ TM, t.1.size ≤ 100000 := fun t ht => by
            rw [hTM] at ht
            rcases List.mem_append.1 ht with h | h
            · exact hnm t h
            · rw [List.mem_singleton] at h; rw [h]; exact hnm _ (List.getElem_mem _)
          have HCkL := hide (fun v w hr => check_any a b c (lessT ts k) v w hr hnmL)
          have HCkM := hide (fun v w hr => check_any a b c TM v w hr hnmM)
          have HFindL := hide (fun v w hr => find_any a b c (lessT ts k) v x w hr)
          have HSame := hide (fun v w hr hr' => same_any a b c a b c ts (lessT ts k) (.slice (some ⟨bk, o, none⟩) n cc) v w hr hr')
          rw [same_less (by omega), ← Hn.out] at HSame
          rw [hxn, find_less (by omega) hnod, findV_neg (by decide)] at HFindL
          have hflL : flatT (lessT ts k) = flatT (ts.take k) ++ flatT (ts.drop (k + 1)) := by rw [lessT, flatT_app]
          have hflM : flatT TM = flatT ts ++ [.string x, .int .i64 y1, .int .i64 y2] := by rw [hTM, flatT_snoc, Hxt.out]
          have hmM : TM.length = n + 1 := by rw [hTM, List.length_append, Hn.out]; rfl
          have HfL := hide hflL
          have HfM := hide hflM
          have HmL := hide hml
          have HmM := hide hmM
          have Hl1 := hide (show (flatT (ts.take k)).length = k * 3 by rw [flatT_len, List.length_take]; have := Hn.out; omega)
          have Hl2 := hide (show (flatT (ts.drop (k + 1))).length = d * 3 by rw [flatT_len, List.length_drop, ← Hn.out, hdd])
          have Hl3 := hide (show (flatT ts).length = n * 3 by rw [flatT_len, ← Hn.out])
          have Hnews2 : Hid (∀ w' : World, (∀ j u, (flatT ts)[j]? = some u → w'.cell? ⟨bk, o + j, none⟩ = some u) → ∀ j u, (flatT (ts.drop (k + 1)))[j]? = some u → w'.cell? ((⟨bk, o2, none⟩ : Addr).add j) = some u) := hide (fun w' hc => by
            by_cases hlt : k + 1 < n
            · rw [ho2 hlt]; exact news_drop (k + 1) hc
            · intro j u hj
              have h0 : ts.drop (k + 1) = [] := List.drop_eq_nil_of_le (by have := Hn.out; omega)
              rw [h0] at hj
              simp [flatT] at hj)
          have hLc := check_less h00 (show k < ts.length by have := Hn.out; omega)
          have hMc := check_more h00 (show k < ts.length by have := Hn.out; omega)
          rw [hLc, ← Hn.out] at HCkL
          rw [← hTM] at hMc
          rw [hMc, ← Hn.out] at HCkM
          have hkd : k + d + 1 = n := by omega
          have hdn : d ≤ n := by omega
          clear hf h80 h40 hopen hcell hx0 hx1 hx2 hgo hn hx hy1 hy2 hxn hml hnmL hnmM hflL hflM hmM hLc hMc hgood hnod hnm h00 ho2 hdd Hxt hTM
          by_cases hn1 : n = 1
          · rw [if_pos hn1] at HCkL
            rw [if_neg (by omega)] at HCkM
            have hk0 : k = 0 := by omega
            have hd0 : d = 0 := by omega
            have hlen0 : ((k : Int) + (d : Int) == 0) = true := by simp; omega
            have hlen0' : (k + d == 0) = true := by simp; omega
            have h64 : decide ((64 : Int) < (n : Int) + 1) = false := decide_eq_false (by omega)
            clear hn1 hk0 hd0
            go_enter Tryd.func7, Tryd.ntmps7
            go_wp2_with fail
            refine (HFew.out _ (hr.below hb0)).mono ?_
            rintro e w1 ⟨rfl, hb1⟩
            have hb01 := below2 hb0 hb1
            have hB1 := (hb1.block w.heap.size (by simp)).trans (heap_alloc_new w _)
            have hN1 : w.heap.size < w1.heap.size := (Array.getElem?_eq_some_iff.1 hB1).1
            obtain ⟨c0, c1, c2, c3⟩ := cells4 hB1
            go_wp2_with fail
            refine (HCk.out _ (hr.below hb01)).mono ?_
            rintro e w2 ⟨rfl, hb2⟩
            have hb02 := below2 hb01 hb2
            have hB2 := (hb2.block w.heap.size hN1).trans hB1
            have hN2 : w.heap.size < w2.heap.size := (Array.getElem?_eq_some_iff.1 hB2).1
            clear c0 c1 c2 c3
            obtain ⟨c0, c1, c2, c3⟩ := cells4 hB2
            have hbk2 : bk < w2.heap.size := Nat.lt_of_lt_of_le hbk hb02.size
            have r0 := (hb02.cell (p := ⟨bk, o + k * 3, none⟩) hbk).trans p0
            go_wp2_with fail
            refine wp_region_ext (by kernel_rfl) (by kernel_rfl) ?_
            repeat (first
              | go_big_quiet_skip
              | (go_big_quiet_want
                 first
                   | (apply quiet_val
                      · intro wq hq
                        have hcq := hq.cells
                        have hzq := hq.lift
                        go_simp
                        try go_bits
                        first | done | with_reducible rfl
                      (try simp only [Act.put, List.setIfInBounds_toArray, List.set_cons_zero, List.set_cons_succ])
                      go_big_quiet_on)
                   | (apply quiet_call
                      · intro wq hq
                        have hcq := hq.cells
                        have hzq := hq.lift
                        go_simp
                        first
                          | ((go_at_call 19; exact (HFind.out wq (hr.below (below2 hb02 hq.below))).mono fun e w' hp => ⟨hp.1, hq.call hp.2⟩))
                      (try simp only [Act.put, List.setIfInBounds_toArray, List.set_cons_zero, List.set_cons_succ])
                      go_big_quiet_on)))
            refine wpQuiet_nil ?_
            intro w3 hw3
            have hb03 := below2 hb02 hw3.below
            have hB3 := (hw3.below.block w.heap.size hN2).trans hB2
            have hN3 : w.heap.size < w3.heap.size := (Array.getElem?_eq_some_iff.1 hB3).1
            clear c0 c1 c2 c3 hB1 hB2 hN1 hN2 hb1 hb2 hb01 hw3 r0 hbk2
            obtain ⟨c0, c1, c2, c3⟩ := cells4 hB3
            have hcell3 : ∀ j u, (flatT ts)[j]? = some u → w3.cell? ⟨bk, o + j, none⟩ = some u := fun j u hj => (hb03.cell (p := ⟨bk, o + j, none⟩) hbk).trans (Hcell.out j u hj)
            have Hcell3 := hide hcell3
            have hbk3 : bk < w3.heap.size := Nat.lt_of_lt_of_le hbk hb03.size
            clear hcell3
            go_wp2_with (first
              | (at_builtin; refine wpList_append_own _ rfl (.tmp 51) (.tmp 55) 22 rfl w3.heap.size 42 i0 _ 3 32 Tryd.underlying22 hi hz0 hz1 hz2 rfl (by decide) (.slice none 0 0) 0 [] rfl (World.ownsRow_nil _ _ _ _) ⟨bk, o, none⟩ k cc (flatT (ts.take k)) rfl Hl1.out (news_take k Hcell3.out) (flatT_one _) (by unfold maxLen; omega) (by omega) (Nat.le_refl _) ?_; intro v4 w4 hown4 hg4 _; have hb34 : Below w3.heap.size w3 w4 := (Below.refl _ _).grown hg4 (Nat.le_refl _) (fun q hq => by simp [Value.ownBlock] at hq); have hB4 := (hb34.block w.heap.size hN3).trans hB3; clear c0 c1 c2 c3; obtain ⟨c0, c1, c2, c3⟩ := cells4 hB4; simp only [Nat.zero_add, List.nil_append] at hown4)
              | (at_builtin; refine wpList_append_own _ rfl (.tmp 57) (.tmp 62) 22 rfl w3.heap.size 42 i0 _ 3 32 Tryd.underlying22 hi hz0 hz1 hz2 rfl (by decide) v4 k (flatT (ts.take k)) rfl hown4 ⟨bk, o2, none⟩ d c2' (flatT (ts.drop (k + 1))) rfl Hl2.out (Hnews2.out _ (fun j u hj => (hb34.cell (p := ⟨bk, o + j, none⟩) hbk3).trans (Hcell3.out j u hj))) (flatT_one _) (by unfold maxLen; omega) (by omega) hb34.size ?_; intro v5 w5 hown5 hg5 _; obtain ⟨A5, cc5, rfl, -, -, -⟩ := (Rd.of_own hown5).shape; have hb35 : Below w3.heap.size w3 w5 := hb34.grown hg5 hb34.size (fun q hq => (hown4.lt q hq).1); have hB5 := (hb35.block w.heap.size hN3).trans hB3; clear c0 c1 c2 c3; obtain ⟨c0, c1, c2, c3⟩ := cells4 hB5))
            have hrL : Rd w5 (.slice A5 (k + d) cc5) 3 (lessT ts k).length (flatT (lessT ts k)) := by rw [HmL.out, HfL.out]; exact Rd.of_own hown5
            have hb05 := below2 hb03 hb35
            have hbL := below_new w5 (.cells #[.int .i64 a, .slice A5 (k + d) cc5, .int .i64 b, .int .i64 c] 24)
            have hL6 := heap_alloc_new w5 (.cells #[.int .i64 a, .slice A5 (k + d) cc5, .int .i64 b, .int .i64 c] 24)
            have hB6 := (hbL.block w.heap.size (Array.getElem?_eq_some_iff.1 hB5).1).trans hB5
            refine (HCkL.out _ _ (hrL.below hbL)).mono ?_
            rintro e w6 ⟨rfl, hb6⟩
            have hF7 := heap_alloc_new w6 (.cells #[.int .i64 (-1), .int .i64 12] 29)
            have hbF := below_new w6 (.cells #[.int .i64 (-1), .int .i64 12] 29)
            have hb57 := below2 hbL (below2 hb6 hbF)
            have hB7 := (hb57.block w.heap.size (Array.getElem?_eq_some_iff.1 hB5).1).trans hB5
            have hL7 := (below2 hb6 hbF).block w5.heap.size (by simp) |>.trans hL6
            have hb07 := below2 hb05 hb57
            have hNF0 : w.heap.size < w6.heap.size := by have h1 := (Array.getElem?_eq_some_iff.1 hB6).1; have h2 := hb6.size; omega
            have hrL7 := hrL.below hb57
            clear c0 c1 c2 c3 hB3 hB4 hB5 hB6 hL6 hb34 hb35 hown4 hown5 hg4 hg5 hb03 hb05 hbL hbF hb6 hb57 hrL Hcell3 hbk3 hN3
            obtain ⟨c0, c1, c2, c3⟩ := cells4 hB7
            obtain ⟨l0, l1, l2, l3⟩ := cells4 hL7
            obtain ⟨f0, f1, f2, f3⟩ := two_cells hF7
            go_wp2_with fail
            generalize w6.alloc (.cells #[.int .i64 (-1), .int .i64 12] 29) = W7 at *
            have hBx := hB7
            have hLx := hL7
            have hFx := hF7
            have hbx := hb07
            have hrLx := hrL7
            clear c0 c1 c2 c3 l0 l1 l2 l3 f0 f1 f2 f3
            have hBl : w.heap.size < W7.heap.size := (Array.getElem?_eq_some_iff.1 hBx).1
            have hLl : w5.heap.size < W7.heap.size := (Array.getElem?_eq_some_iff.1 hLx).1
            have hFl : w6.heap.size < W7.heap.size := (Array.getElem?_eq_some_iff.1 hFx).1
            have hNF : w.heap.size < w6.heap.size := hNF0
            have hbk7 : bk < W7.heap.size := Nat.lt_of_lt_of_le hbk hbx.size
            have r0 := (hbx.cell (p := ⟨bk, o + k * 3, none⟩) hbk).trans p0
            obtain ⟨c0, c1, c2, c3⟩ := cells4 hBx
            obtain ⟨l0, l1, l2, l3⟩ := cells4 hLx
            refine wp_region_ext (by kernel_rfl) (by kernel_rfl) ?_
            repeat (first
              | go_big_quiet_skip
              | (go_big_quiet_want
                 first
                   | (apply quiet_val
                      · intro wq hq
                        have hcq := hq.cells
                        have hzq := hq.lift
                        go_simp
                        try go_bits
                        first | done | with_reducible rfl
                      (try simp only [Act.put, List.setIfInBounds_toArray, List.set_cons_zero, List.set_cons_succ])
                      go_big_quiet_on)
                   | (apply quiet_call
                      · intro wq hq
                        have hcq := hq.cells
                        have hzq := hq.lift
                        go_simp
                        first
                          | ((go_at_call 19; exact (HFindL.out _ wq (hrLx.below hq.below)).mono fun e w' hp => ⟨hp.1, hq.call hp.2⟩))
                      (try simp only [Act.put, List.setIfInBounds_toArray, List.set_cons_zero, List.set_cons_succ])
                      go_big_quiet_on)))
            refine wpQuiet_nil ?_
            intro w8 hw8
            have hb08 := below2 hbx hw8.below
            have hB8 := (hw8.below.block w.heap.size hBl).trans hBx
            have hF8 := (hw8.below.block w6.heap.size hFl).trans hFx
            have hN8 : w.heap.size < w8.heap.size := (Array.getElem?_eq_some_iff.1 hB8).1
            have hF8l : w6.heap.size < w8.heap.size := (Array.getElem?_eq_some_iff.1 hF8).1
            have hbk8 : bk < w8.heap.size := Nat.lt_of_lt_of_le hbk hb08.size
            clear c0 c1 c2 c3 l0 l1 l2 l3 r0 hB7 hL7 hF7 hb07 hrL7 hBx hLx hFx hbx hrLx hBl hLl hFl hw8 hbk7
            obtain ⟨c0, c1, c2, c3⟩ := cells4 hB8
            have r0 := (hb08.cell (p := ⟨bk, o + k * 3, none⟩) hbk).trans p0
            have r1 := (hb08.cell (p := ⟨bk, o + k * 3 + 1, none⟩) hbk).trans p1
            have r2 := (hb08.cell (p := ⟨bk, o + k * 3 + 2, none⟩) hbk).trans p2
            go_wp2_with (first
              | (at_builtin; refine wpList_append_own _ rfl (.tmp 101) (.tmp 103) 22 rfl w8.heap.size 42 i0 _ 3 32 Tryd.underlying22 hi hz0 hz1 hz2 rfl (by decide) (.slice none 0 0) 0 [] rfl (World.ownsRow_nil _ _ _ _) ⟨bk, o, none⟩ n cc (flatT ts) rfl Hl3.out (fun j u hj => by rw [add_off]; exact (hb08.cell (p := ⟨bk, o + j, none⟩) hbk).trans (Hcell.out j u hj)) (flatT_one _) (by unfold maxLen; omega) (by omega) (Nat.le_refl _) ?_; intro v9 w9 hown9 hg9 _; have hb89 : Below w8.heap.size w8 w9 := (Below.refl _ _).grown hg9 (Nat.le_refl _) (fun q hq => by simp [Value.ownBlock] at hq); have hB9 := (hb89.block w.heap.size hN8).trans hB8; clear c0 c1 c2 c3; obtain ⟨c0, c1, c2, c3⟩ := cells4 hB9; simp only [Nat.zero_add, List.nil_append] at hown9; have s0 := (hb89.cell (p := ⟨bk, o + k * 3, none⟩) hbk8).trans r0; have s1 := (hb89.cell (p := ⟨bk, o + k * 3 + 1, none⟩) hbk8).trans r1; have s2 := (hb89.cell (p := ⟨bk, o + k * 3 + 2, none⟩) hbk8).trans r2)
              | (at_builtin; refine wpList_append_own _ rfl (.tmp 105) (.tmp 111) 22 rfl w8.heap.size 42 i0 _ 3 32 Tryd.underlying22 hi hz0 hz1 hz2 rfl (by decide) v9 n (flatT ts) rfl (hown9.alloc _) ⟨w9.heap.size, 0, none⟩ 1 1 [.string x, .int .i64 y1, .int .i64 y2] rfl rfl (news3 _ _ _ _ _) (by simp [Value.oneCell']) (by unfold maxLen; omega) (by omega) (by have := hb89.size; simp; omega) ?_; intro v10 w10 hown10 hg10 _; obtain ⟨A10, cc10, rfl, -, -, -⟩ := (Rd.of_own hown10).shape; have hb810 : Below w8.heap.size w8 w10 := (hb89.alloc hb89.size _).grown hg10 (by have := hb89.size; simp; omega) (fun q hq => (hown9.lt q hq).1); have hB10 := (hb810.block w.heap.size hN8).trans hB8; clear c0 c1 c2 c3; obtain ⟨c0, c1, c2, c3⟩ := cells4 hB10))
            have hrM : Rd w10 (.slice A10 (n + 1) cc10) 3 TM.length (flatT TM) := by rw [HmM.out, HfM.out]; exact Rd.of_own hown10
            have hbM := below_new w10 (.cells #[.int .i64 a, .slice A10 (n + 1) cc10, .int .i64 b, .int .i64 c] 24)
            refine (HCkM.out _ _ (hrM.below hbM)).mono ?_
            rintro e w11 ⟨rfl, hb11⟩
            have hbM11 := below2 hbM hb11
            have hF11 := (hbM11.block w6.heap.size (Nat.lt_of_lt_of_le hF8l hb810.size)).trans ((hb810.block w6.heap.size hF8l).trans hF8)
            have hB11 := (hbM11.block w.heap.size (Nat.lt_of_lt_of_le hN8 hb810.size)).trans hB10
            have hb011 := below2 (below2 hb08 hb810) hbM11
            clear c0 c1 c2 c3 r0 r1 r2 hB8 hF8 hB10 hown10 hrM hbM hb11 hb810 hg10 hb08 hbM11
            obtain ⟨c0, c1, c2, c3⟩ := cells4 hB11
            obtain ⟨s0', s1', s2', s3'⟩ := two_cells hF11
            have hNe1 : ¬ w.heap.size = w6.heap.size := by omega
            have hNe2 : ¬ w6.heap.size = w.heap.size := by omega
            obtain ⟨q4, q5, hR2⟩ := two_after hF11 (.int .i64 (n : Int)) (.int .i64 15)
            obtain ⟨z0, z1, -, -⟩ := two_cells hR2
            have hbE := (hb011.setCell (p := ⟨w6.heap.size, 0, none⟩) (by simp; omega) (.int .i64 (n : Int))).setCell (p := ⟨w6.heap.size, 1, none⟩) (by simp; omega) (.int .i64 15)
            go_wp2_with fail
            refine (awake_any mx _ (two_kept hbE hm)).mono ?_
            rintro e w9 ⟨rfl, hb9⟩
            go_wp2
            go_ret
            exact ⟨by simp, below2 hbE hb9⟩
          · rw [if_neg hn1] at HCkL
            have hlen0 : ((k : Int) + (d : Int) == 0) = false := by simp; omega
            have hlen0' : (k + d == 0) = false := by simp; omega
            by_cases hn64 : n = 64
            · rw [if_pos hn64] at HCkM
              have h64 : decide ((64 : Int) < (n : Int) + 1) = true := decide_eq_true (by omega)
              clear hn1 hn64
              go_enter Tryd.func7, Tryd.ntmps7
              go_wp2_with fail
              refine (HFew.out _ (hr.below hb0)).mono ?_
              rintro e w1 ⟨rfl, hb1⟩
              have hb01 := below2 hb0 hb1
              have hB1 := (hb1.block w.heap.size (by simp)).trans (heap_alloc_new w _)
              have hN1 : w.heap.size < w1.heap.size := (Array.getElem?_eq_some_iff.1 hB1).1
              obtain ⟨c0, c1, c2, c3⟩ := cells4 hB1
              go_wp2_with fail
              refine (HCk.out _ (hr.below hb01)).mono ?_
              rintro e w2 ⟨rfl, hb2⟩
              have hb02 := below2 hb01 hb2
              have hB2 := (hb2.block w.heap.size hN1).trans hB1
              have hN2 : w.heap.size < w2.heap.size := (Array.getElem?_eq_some_iff.1 hB2).1
              clear c0 c1 c2 c3
              obtain ⟨c0, c1, c2, c3⟩ := cells4 hB2
              have hbk2 : bk < w2.heap.size := Nat.lt_of_lt_of_le hbk hb02.size
              have r0 := (hb02.cell (p := ⟨bk, o + k * 3, none⟩) hbk).trans p0
              go_wp2_with fail
              refine wp_region_ext (by kernel_rfl) (by kernel_rfl) ?_
              repeat (first
                | go_big_quiet_skip
                | (go_big_quiet_want
                   first
                     | (apply quiet_val
                        · intro wq hq
                          have hcq := hq.cells
                          have hzq := hq.lift
                          go_simp
                          try go_bits
                          first | done | with_reducible rfl
                        (try simp only [Act.put, List.setIfInBounds_toArray, List.set_cons_zero, List.set_cons_succ])
                        go_big_quiet_on)
                     | (apply quiet_call
                        · intro wq hq
                          have hcq := hq.cells
                          have hzq := hq.lift
                          go_simp
                          first
                            | ((go_at_call 19; exact (HFind.out wq (hr.below (below2 hb02 hq.below))).mono fun e w' hp => ⟨hp.1, hq.call hp.2⟩))
                        (try simp only [Act.put, List.setIfInBounds_toArray, List.set_cons_zero, List.set_cons_succ])
                        go_big_quiet_on)))
              refine wpQuiet_nil ?_
              intro w3 hw3
              have hb03 := below2 hb02 hw3.below
              have hB3 := (hw3.below.block w.heap.size hN2).trans hB2
              have hN3 : w.heap.size < w3.heap.size := (Array.getElem?_eq_some_iff.1 hB3).1
              clear c0 c1 c2 c3 hB1 hB2 hN1 hN2 hb1 hb2 hb01 hw3 r0 hbk2
              obtain ⟨c0, c1, c2, c3⟩ := cells4 hB3
              have hcell3 : ∀ j u, (flatT ts)[j]? = some u → w3.cell? ⟨bk, o + j, none⟩ = some u := fun j u hj => (hb03.cell (p := ⟨bk, o + j, none⟩) hbk).trans (Hcell.out j u hj)
              have Hcell3 := hide hcell3
              have hbk3 : bk < w3.heap.size := Nat.lt_of_lt_of_le hbk hb03.size
              clear hcell3
              go_wp2_with (first
                | (at_builtin; refine wpList_append_own _ rfl (.tmp 51) (.tmp 55) 22 rfl w3.heap.size 42 i0 _ 3 32 Tryd.underlying22 hi hz0 hz1 hz2 rfl (by decide) (.slice none 0 0) 0 [] rfl (World.ownsRow_nil _ _ _ _) ⟨bk, o, none⟩ k cc (flatT (ts.take k)) rfl Hl1.out (news_take k Hcell3.out) (flatT_one _) (by unfold maxLen; omega) (by omega) (Nat.le_refl _) ?_; intro v4 w4 hown4 hg4 _; have hb34 : Below w3.heap.size w3 w4 := (Below.refl _ _).grown hg4 (Nat.le_refl _) (fun q hq => by simp [Value.ownBlock] at hq); have hB4 := (hb34.block w.heap.size hN3).trans hB3; clear c0 c1 c2 c3; obtain ⟨c0, c1, c2, c3⟩ := cells4 hB4; simp only [Nat.zero_add, List.nil_append] at hown4)
                | (at_builtin; refine wpList_append_own _ rfl (.tmp 57) (.tmp 62) 22 rfl w3.heap.size 42 i0 _ 3 32 Tryd.underlying22 hi hz0 hz1 hz2 rfl (by decide) v4 k (flatT (ts.take k)) rfl hown4 ⟨bk, o2, none⟩ d c2' (flatT (ts.drop (k + 1))) rfl Hl2.out (Hnews2.out _ (fun j u hj => (hb34.cell (p := ⟨bk, o + j, none⟩) hbk3).trans (Hcell3.out j u hj))) (flatT_one _) (by unfold maxLen; omega) (by omega) hb34.size ?_; intro v5 w5 hown5 hg5 _; obtain ⟨A5, cc5, rfl, -, -, -⟩ := (Rd.of_own hown5).shape; have hb35 : Below w3.heap.size w3 w5 := hb34.grown hg5 hb34.size (fun q hq => (hown4.lt q hq).1); have hB5 := (hb35.block w.heap.size hN3).trans hB3; clear c0 c1 c2 c3; obtain ⟨c0, c1, c2, c3⟩ := cells4 hB5))
              have hrL : Rd w5 (.slice A5 (k + d) cc5) 3 (lessT ts k).length (flatT (lessT ts k)) := by rw [HmL.out, HfL.out]; exact Rd.of_own hown5
              have hb05 := below2 hb03 hb35
              have hbL := below_new w5 (.cells #[.int .i64 a, .slice A5 (k + d) cc5, .int .i64 b, .int .i64 c] 24)
              have hL6 := heap_alloc_new w5 (.cells #[.int .i64 a, .slice A5 (k + d) cc5, .int .i64 b, .int .i64 c] 24)
              have hB6 := (hbL.block w.heap.size (Array.getElem?_eq_some_iff.1 hB5).1).trans hB5
              refine (HCkL.out _ _ (hrL.below hbL)).mono ?_
              rintro e w6 ⟨rfl, hb6⟩
              have hF7 := heap_alloc_new w6 (.cells #[.int .i64 0, .int .i64 0] 29)
              have hbF := below_new w6 (.cells #[.int .i64 0, .int .i64 0] 29)
              have hb57 := below2 hbL (below2 hb6 hbF)
              have hB7 := (hb57.block w.heap.size (Array.getElem?_eq_some_iff.1 hB5).1).trans hB5
              have hL7 := (below2 hb6 hbF).block w5.heap.size (by simp) |>.trans hL6
              have hb07 := below2 hb05 hb57
              have hNF0 : w.heap.size < w6.heap.size := by have h1 := (Array.getElem?_eq_some_iff.1 hB6).1; have h2 := hb6.size; omega
              have hrL7 := hrL.below hb57
              clear c0 c1 c2 c3 hB3 hB4 hB5 hB6 hL6 hb34 hb35 hown4 hown5 hg4 hg5 hb03 hb05 hbL hbF hb6 hb57 hrL Hcell3 hbk3 hN3
              obtain ⟨c0, c1, c2, c3⟩ := cells4 hB7
              obtain ⟨l0, l1, l2, l3⟩ := cells4 hL7
              obtain ⟨f0, f1, f2, f3⟩ := two_cells hF7
              go_wp2_with fail
              refine (HSame.out _ _ (hr.below hb07) hrL7).mono ?_
              rintro e W7 ⟨rfl, hb7⟩
              have hBx := (hb7.block w.heap.size (Array.getElem?_eq_some_iff.1 hB7).1).trans hB7
              have hLx := (hb7.block w5.heap.size (Array.getElem?_eq_some_iff.1 hL7).1).trans hL7
              have hFx := (hb7.block w6.heap.size (Array.getElem?_eq_some_iff.1 hF7).1).trans hF7
              have hbx := below2 hb07 hb7
              have hrLx := hrL7.below hb7
              clear c0 c1 c2 c3 l0 l1 l2 l3 f0 f1 f2 f3
              go_wp2_with fail
              have hBl : w.heap.size < W7.heap.size := (Array.getElem?_eq_some_iff.1 hBx).1
              have hLl : w5.heap.size < W7.heap.size := (Array.getElem?_eq_some_iff.1 hLx).1
              have hFl : w6.heap.size < W7.heap.size := (Array.getElem?_eq_some_iff.1 hFx).1
              have hNF : w.heap.size < w6.heap.size := hNF0
              have hbk7 : bk < W7.heap.size := Nat.lt_of_lt_of_le hbk hbx.size
              have r0 := (hbx.cell (p := ⟨bk, o + k * 3, none⟩) hbk).trans p0
              obtain ⟨c0, c1, c2, c3⟩ := cells4 hBx
              obtain ⟨l0, l1, l2, l3⟩ := cells4 hLx
              refine wp_region_ext (by kernel_rfl) (by kernel_rfl) ?_
              repeat (first
                | go_big_quiet_skip
                | (go_big_quiet_want
                   first
                     | (apply quiet_val
                        · intro wq hq
                          have hcq := hq.cells
                          have hzq := hq.lift
                          go_simp
                          try go_bits
                          first | done | with_reducible rfl
                        (try simp only [Act.put, List.setIfInBounds_toArray, List.set_cons_zero, List.set_cons_succ])
                        go_big_quiet_on)
                     | (apply quiet_call
                        · intro wq hq
                          have hcq := hq.cells
                          have hzq := hq.lift
                          go_simp
                          first
                            | ((go_at_call 19; exact (HFindL.out _ wq (hrLx.below hq.below)).mono fun e w' hp => ⟨hp.1, hq.call hp.2⟩))
                        (try simp only [Act.put, List.setIfInBounds_toArray, List.set_cons_zero, List.set_cons_succ])
                        go_big_quiet_on)))
              refine wpQuiet_nil ?_
              intro w8 hw8
              have hb08 := below2 hbx hw8.below
              have hB8 := (hw8.below.block w.heap.size hBl).trans hBx
              have hF8 := (hw8.below.block w6.heap.size hFl).trans hFx
              have hN8 : w.heap.size < w8.heap.size := (Array.getElem?_eq_some_iff.1 hB8).1
              have hF8l : w6.heap.size < w8.heap.size := (Array.getElem?_eq_some_iff.1 hF8).1
              have hbk8 : bk < w8.heap.size := Nat.lt_of_lt_of_le hbk hb08.size
              clear c0 c1 c2 c3 l0 l1 l2 l3 r0 hB7 hL7 hF7 hb07 hrL7 hBx hLx hFx hbx hrLx hBl hLl hFl hw8 hbk7
              obtain ⟨c0, c1, c2, c3⟩ := cells4 hB8
              have r0 := (hb08.cell (p := ⟨bk, o + k * 3, none⟩) hbk).trans p0
              have r1 := (hb08.cell (p := ⟨bk, o + k * 3 + 1, none⟩) hbk).trans p1
              have r2 := (hb08.cell (p := ⟨bk, o + k * 3 + 2, none⟩) hbk).trans p2
              go_wp2_with (first
                | (at_builtin; refine wpList_append_own _ rfl (.tmp 101) (.tmp 103) 22 rfl w8.heap.size 42 i0 _ 3 32 Tryd.underlying22 hi hz0 hz1 hz2 rfl (by decide) (.slice none 0 0) 0 [] rfl (World.ownsRow_nil _ _ _ _) ⟨bk, o, none⟩ n cc (flatT ts) rfl Hl3.out (fun j u hj => by rw [add_off]; exact (hb08.cell (p := ⟨bk, o + j, none⟩) hbk).trans (Hcell.out j u hj)) (flatT_one _) (by unfold maxLen; omega) (by omega) (Nat.le_refl _) ?_; intro v9 w9 hown9 hg9 _; have hb89 : Below w8.heap.size w8 w9 := (Below.refl _ _).grown hg9 (Nat.le_refl _) (fun q hq => by simp [Value.ownBlock] at hq); have hB9 := (hb89.block w.heap.size hN8).trans hB8; clear c0 c1 c2 c3; obtain ⟨c0, c1, c2, c3⟩ := cells4 hB9; simp only [Nat.zero_add, List.nil_append] at hown9; have s0 := (hb89.cell (p := ⟨bk, o + k * 3, none⟩) hbk8).trans r0; have s1 := (hb89.cell (p := ⟨bk, o + k * 3 + 1, none⟩) hbk8).trans r1; have s2 := (hb89.cell (p := ⟨bk, o + k * 3 + 2, none⟩) hbk8).trans r2)
                | (at_builtin; refine wpList_append_own _ rfl (.tmp 105) (.tmp 111) 22 rfl w8.heap.size 42 i0 _ 3 32 Tryd.underlying22 hi hz0 hz1 hz2 rfl (by decide) v9 n (flatT ts) rfl (hown9.alloc _) ⟨w9.heap.size, 0, none⟩ 1 1 [.string x, .int .i64 y1, .int .i64 y2] rfl rfl (news3 _ _ _ _ _) (by simp [Value.oneCell']) (by unfold maxLen; omega) (by omega) (by have := hb89.size; simp; omega) ?_; intro v10 w10 hown10 hg10 _; obtain ⟨A10, cc10, rfl, -, -, -⟩ := (Rd.of_own hown10).shape; have hb810 : Below w8.heap.size w8 w10 := (hb89.alloc hb89.size _).grown hg10 (by have := hb89.size; simp; omega) (fun q hq => (hown9.lt q hq).1); have hB10 := (hb810.block w.heap.size hN8).trans hB8; clear c0 c1 c2 c3; obtain ⟨c0, c1, c2, c3⟩ := cells4 hB10))
              have hrM : Rd w10 (.slice A10 (n + 1) cc10) 3 TM.length (flatT TM) := by rw [HmM.out, HfM.out]; exact Rd.of_own hown10
              have hbM := below_new w10 (.cells #[.int .i64 a, .slice A10 (n + 1) cc10, .int .i64 b, .int .i64 c] 24)
              refine (HCkM.out _ _ (hrM.below hbM)).mono ?_
              rintro e w11 ⟨rfl, hb11⟩
              have hbM11 := below2 hbM hb11
              have hF11 := (hbM11.block w6.heap.size (Nat.lt_of_lt_of_le hF8l hb810.size)).trans ((hb810.block w6.heap.size hF8l).trans hF8)
              have hB11 := (hbM11.block w.heap.size (Nat.lt_of_lt_of_le hN8 hb810.size)).trans hB10
              have hb011 := below2 (below2 hb08 hb810) hbM11
              clear c0 c1 c2 c3 r0 r1 r2 hB8 hF8 hB10 hown10 hrM hbM hb11 hb810 hg10 hb08 hbM11
              obtain ⟨c0, c1, c2, c3⟩ := cells4 hB11
              obtain ⟨s0', s1', s2', s3'⟩ := two_cells hF11
              have hNe1 : ¬ w.heap.size = w6.heap.size := by omega
              have hNe2 : ¬ w6.heap.size = w.heap.size := by omega
              obtain ⟨q4, q5, hR2⟩ := two_after hF11 (.int .i64 (-1)) (.int .i64 12)
              obtain ⟨z0, z1, -, -⟩ := two_cells hR2
              have hbE := (hb011.setCell (p := ⟨w6.heap.size, 0, none⟩) (by simp; omega) (.int .i64 (-1))).setCell (p := ⟨w6.heap.size, 1, none⟩) (by simp; omega) (.int .i64 12)
              go_wp2_with fail
              refine (awake_any mx _ (two_kept hbE hm)).mono ?_
              rintro e w9 ⟨rfl, hb9⟩
              go_wp2
              go_ret
              exact ⟨by simp, below2 hbE hb9⟩
            · rw [if_neg hn64] at HCkM
              have h64 : decide ((64 : Int) < (n : Int) + 1) = false := decide_eq_false (by omega)
              clear hn1 hn64
              go_enter Tryd.func7, Tryd.ntmps7
              go_wp2_with fail
              refine (HFew.out _ (hr.below hb0)).mono ?_
              rintro e w1 ⟨rfl, hb1⟩
              have hb01 := below2 hb0 hb1
              have hB1 := (hb1.block w.heap.size (by simp)).trans (heap_alloc_new w _)
              have hN1 : w.heap.size < w1.heap.size := (Array.getElem?_eq_some_iff.1 hB1).1
              obtain ⟨c0, c1, c2, c3⟩ := cells4 hB1
              go_wp2_with fail
              refine (HCk.out _ (hr.below hb01)).mono ?_
              rintro e w2 ⟨rfl, hb2⟩
              have hb02 := below2 hb01 hb2
              have hB2 := (hb2.block w.heap.size hN1).trans hB1
              have hN2 : w.heap.size < w2.heap.size := (Array.getElem?_eq_some_iff.1 hB2).1
              clear c0 c1 c2 c3
              obtain ⟨c0, c1, c2, c3⟩ := cells4 hB2
              have hbk2 : bk < w2.heap.size := Nat.lt_of_lt_of_le hbk hb02.size
              have r0 := (hb02.cell (p := ⟨bk, o + k * 3, none⟩) hbk).trans p0
              go_wp2_with fail
              refine wp_region_ext (by kernel_rfl) (by kernel_rfl) ?_
              repeat (first
                | go_big_quiet_skip
                | (go_big_quiet_want
                   first
                     | (apply quiet_val
                        · intro wq hq
                          have hcq := hq.cells
                          have hzq := hq.lift
                          go_simp
                          try go_bits
                          first | done | with_reducible rfl
                        (try simp only [Act.put, List.setIfInBounds_toArray, List.set_cons_zero, List.set_cons_succ])
                        go_big_quiet_on)
                     | (apply quiet_call
                        · intro wq hq
                          have hcq := hq.cells
                          have hzq := hq.lift
                          go_simp
                          first
                            | ((go_at_call 19; exact (HFind.out wq (hr.below (below2 hb02 hq.below))).mono fun e w' hp => ⟨hp.1, hq.call hp.2⟩))
                        (try simp only [Act.put, List.setIfInBounds_toArray, List.set_cons_zero, List.set_cons_succ])
                        go_big_quiet_on)))
              refine wpQuiet_nil ?_
              intro w3 hw3
              have hb03 := below2 hb02 hw3.below
              have hB3 := (hw3.below.block w.heap.size hN2).trans hB2
              have hN3 : w.heap.size < w3.heap.size := (Array.getElem?_eq_some_iff.1 hB3).1
              clear c0 c1 c2 c3 hB1 hB2 hN1 hN2 hb1 hb2 hb01 hw3 r0 hbk2
              obtain ⟨c0, c1, c2, c3⟩ := cells4 hB3
              have hcell3 : ∀ j u, (flatT ts)[j]? = some u → w3.cell? ⟨bk, o + j, none⟩ = some u := fun j u hj => (hb03.cell (p := ⟨bk, o + j, none⟩) hbk).trans (Hcell.out j u hj)
              have Hcell3 := hide hcell3
              have hbk3 : bk < w3.heap.size := Nat.lt_of_lt_of_le hbk hb03.size
              clear hcell3
              go_wp2_with (first
                | (at_builtin; refine wpList_append_own _ rfl (.tmp 51) (.tmp 55) 22 rfl w3.heap.size 42 i0 _ 3 32 Tryd.underlying22 hi hz0 hz1 hz2 rfl (by decide) (.slice none 0 0) 0 [] rfl (World.ownsRow_nil _ _ _ _) ⟨bk, o, none⟩ k cc (flatT (ts.take k)) rfl Hl1.out (news_take k Hcell3.out) (flatT_one _) (by unfold maxLen; omega) (by omega) (Nat.le_refl _) ?_; intro v4 w4 hown4 hg4 _; have hb34 : Below w3.heap.size w3 w4 := (Below.refl _ _).grown hg4 (Nat.le_refl _) (fun q hq => by simp [Value.ownBlock] at hq); have hB4 := (hb34.block w.heap.size hN3).trans hB3; clear c0 c1 c2 c3; obtain ⟨c0, c1, c2, c3⟩ := cells4 hB4; simp only [Nat.zero_add, List.nil_append] at hown4)
                | (at_builtin; refine wpList_append_own _ rfl (.tmp 57) (.tmp 62) 22 rfl w3.heap.size 42 i0 _ 3 32 Tryd.underlying22 hi hz0 hz1 hz2 rfl (by decide) v4 k (flatT (ts.take k)) rfl hown4 ⟨bk, o2, none⟩ d c2' (flatT (ts.drop (k + 1))) rfl Hl2.out (Hnews2.out _ (fun j u hj => (hb34.cell (p := ⟨bk, o + j, none⟩) hbk3).trans (Hcell3.out j u hj))) (flatT_one _) (by unfold maxLen; omega) (by omega) hb34.size ?_; intro v5 w5 hown5 hg5 _; obtain ⟨A5, cc5, rfl, -, -, -⟩ := (Rd.of_own hown5).shape; have hb35 : Below w3.heap.size w3 w5 := hb34.grown hg5 hb34.size (fun q hq => (hown4.lt q hq).1); have hB5 := (hb35.block w.heap.size hN3).trans hB3; clear c0 c1 c2 c3; obtain ⟨c0, c1, c2, c3⟩ := cells4 hB5))
              have hrL : Rd w5 (.slice A5 (k + d) cc5) 3 (lessT ts k).length (flatT (lessT ts k)) := by rw [HmL.out, HfL.out]; exact Rd.of_own hown5
              have hb05 := below2 hb03 hb35
              have hbL := below_new w5 (.cells #[.int .i64 a, .slice A5 (k + d) cc5, .int .i64 b, .int .i64 c] 24)
              have hL6 := heap_alloc_new w5 (.cells #[.int .i64 a, .slice A5 (k + d) cc5, .int .i64 b, .int .i64 c] 24)
              have hB6 := (hbL.block w.heap.size (Array.getElem?_eq_some_iff.1 hB5).1).trans hB5
              refine (HCkL.out _ _ (hrL.below hbL)).mono ?_
              rintro e w6 ⟨rfl, hb6⟩
              have hF7 := heap_alloc_new w6 (.cells #[.int .i64 0, .int .i64 0] 29)
              have hbF := below_new w6 (.cells #[.int .i64 0, .int .i64 0] 29)
              have hb57 := below2 hbL (below2 hb6 hbF)
              have hB7 := (hb57.block w.heap.size (Array.getElem?_eq_some_iff.1 hB5).1).trans hB5
              have hL7 := (below2 hb6 hbF).block w5.heap.size (by simp) |>.trans hL6
              have hb07 := below2 hb05 hb57
              have hNF0 : w.heap.size < w6.heap.size := by have h1 := (Array.getElem?_eq_some_iff.1 hB6).1; have h2 := hb6.size; omega
              have hrL7 := hrL.below hb57
              clear c0 c1 c2 c3 hB3 hB4 hB5 hB6 hL6 hb34 hb35 hown4 hown5 hg4 hg5 hb03 hb05 hbL hbF hb6 hb57 hrL Hcell3 hbk3 hN3
              obtain ⟨c0, c1, c2, c3⟩ := cells4 hB7
              obtain ⟨l0, l1, l2, l3⟩ := cells4 hL7
              obtain ⟨f0, f1, f2, f3⟩ := two_cells hF7
              go_wp2_with fail
              refine (HSame.out _ _ (hr.below hb07) hrL7).mono ?_
              rintro e W7 ⟨rfl, hb7⟩
              have hBx := (hb7.block w.heap.size (Array.getElem?_eq_some_iff.1 hB7).1).trans hB7
              have hLx := (hb7.block w5.heap.size (Array.getElem?_eq_some_iff.1 hL7).1).trans hL7
              have hFx := (hb7.block w6.heap.size (Array.getElem?_eq_some_iff.1 hF7).1).trans hF7
              have hbx := below2 hb07 hb7
              have hrLx := hrL7.below hb7
              clear c0 c1 c2 c3 l0 l1 l2 l3 f0 f1 f2 f3
              go_wp2_with fail
              have hBl : w.heap.size < W7.heap.size := (Array.getElem?_eq_some_iff.1 hBx).1
              have hLl : w5.heap.size < W7.heap.size := (Array.getElem?_eq_some_iff.1 hLx).1
              have hFl : w6.heap.size < W7.heap.size := (Array.getElem?_eq_some_iff.1 hFx).1
              have hNF : w.heap.size < w6.heap.size := hNF0
              have hbk7 : bk < W7.heap.size := Nat.lt_of_lt_of_le hbk hbx.size
              have r0 := (hbx.cell (p := ⟨bk, o + k * 3, none⟩) hbk).trans p0
              obtain ⟨c0, c1, c2, c3⟩ := cells4 hBx
              obtain ⟨l0, l1, l2, l3⟩ := cells4 hLx
              refine wp_region_ext (by kernel_rfl) (by kernel_rfl) ?_
              repeat (first
                | go_big_quiet_skip
                | (go_big_quiet_want
                   first
                     | (apply quiet_val
                        · intro wq hq
                          have hcq := hq.cells
                          have hzq := hq.lift
                          go_simp
                          try go_bits
                          first | done | with_reducible rfl
                        (try simp only [Act.put, List.setIfInBounds_toArray, List.set_cons_zero, List.set_cons_succ])
                        go_big_quiet_on)
                     | (apply quiet_call
                        · intro wq hq
                          have hcq := hq.cells
                          have hzq := hq.lift
                          go_simp
                          first
                            | ((go_at_call 19; exact (HFindL.out _ wq (hrLx.below hq.below)).mono fun e w' hp => ⟨hp.1, hq.call hp.2⟩))
                        (try simp only [Act.put, List.setIfInBounds_toArray, List.set_cons_zero, List.set_cons_succ])
                        go_big_quiet_on)))
              refine wpQuiet_nil ?_
              intro w8 hw8
              have hb08 := below2 hbx hw8.below
              have hB8 := (hw8.below.block w.heap.size hBl).trans hBx
              have hF8 := (hw8.below.block w6.heap.size hFl).trans hFx
              have hN8 : w.heap.size < w8.heap.size := (Array.getElem?_eq_some_iff.1 hB8).1
              have hF8l : w6.heap.size < w8.heap.size := (Array.getElem?_eq_some_iff.1 hF8).1
              have hbk8 : bk < w8.heap.size := Nat.lt_of_lt_of_le hbk hb08.size
              clear c0 c1 c2 c3 l0 l1 l2 l3 r0 hB7 hL7 hF7 hb07 hrL7 hBx hLx hFx hbx hrLx hBl hLl hFl hw8 hbk7
              obtain ⟨c0, c1, c2, c3⟩ := cells4 hB8
              have r0 := (hb08.cell (p := ⟨bk, o + k * 3, none⟩) hbk).trans p0
              have r1 := (hb08.cell (p := ⟨bk, o + k * 3 + 1, none⟩) hbk).trans p1
              have r2 := (hb08.cell (p := ⟨bk, o + k * 3 + 2, none⟩) hbk).trans p2
              go_wp2_with (first
                | (at_builtin; refine wpList_append_own _ rfl (.tmp 101) (.tmp 103) 22 rfl w8.heap.size 42 i0 _ 3 32 Tryd.underlying22 hi hz0 hz1 hz2 rfl (by decide) (.slice none 0 0) 0 [] rfl (World.ownsRow_nil _ _ _ _) ⟨bk, o, none⟩ n cc (flatT ts) rfl Hl3.out (fun j u hj => by rw [add_off]; exact (hb08.cell (p := ⟨bk, o + j, none⟩) hbk).trans (Hcell.out j u hj)) (flatT_one _) (by unfold maxLen; omega) (by omega) (Nat.le_refl _) ?_; intro v9 w9 hown9 hg9 _; have hb89 : Below w8.heap.size w8 w9 := (Below.refl _ _).grown hg9 (Nat.le_refl _) (fun q hq => by simp [Value.ownBlock] at hq); have hB9 := (hb89.block w.heap.size hN8).trans hB8; clear c0 c1 c2 c3; obtain ⟨c0, c1, c2, c3⟩ := cells4 hB9; simp only [Nat.zero_add, List.nil_append] at hown9; have s0 := (hb89.cell (p := ⟨bk, o + k * 3, none⟩) hbk8).trans r0; have s1 := (hb89.cell (p := ⟨bk, o + k * 3 + 1, none⟩) hbk8).trans r1; have s2 := (hb89.cell (p := ⟨bk, o + k * 3 + 2, none⟩) hbk8).trans r2)
                | (at_builtin; refine wpList_append_own _ rfl (.tmp 105) (.tmp 111) 22 rfl w8.heap.size 42 i0 _ 3 32 Tryd.underlying22 hi hz0 hz1 hz2 rfl (by decide) v9 n (flatT ts) rfl (hown9.alloc _) ⟨w9.heap.size, 0, none⟩ 1 1 [.string x, .int .i64 y1, .int .i64 y2] rfl rfl (news3 _ _ _ _ _) (by simp [Value.oneCell']) (by unfold maxLen; omega) (by omega) (by have := hb89.size; simp; omega) ?_; intro v10 w10 hown10 hg10 _; obtain ⟨A10, cc10, rfl, -, -, -⟩ := (Rd.of_own hown10).shape; have hb810 : Below w8.heap.size w8 w10 := (hb89.alloc hb89.size _).grown hg10 (by have := hb89.size; simp; omega) (fun q hq => (hown9.lt q hq).1); have hB10 := (hb810.block w.heap.size hN8).trans hB8; clear c0 c1 c2 c3; obtain ⟨c0, c1, c2, c3⟩ := cells4 hB10))
              have hrM : Rd w10 (.slice A10 (n + 1) cc10) 3 TM.length (flatT TM) := by rw [HmM.out, HfM.out]; exact Rd.of_own hown10
              have hbM := below_new w10 (.cells #[.int .i64 a, .slice A10 (n + 1) cc10, .int .i64 b, .int .i64 c] 24)
              refine (HCkM.out _ _ (hrM.below hbM)).mono ?_
              rintro e w11 ⟨rfl, hb11⟩
              have hbM11 := below2 hbM hb11
              have hF11 := (hbM11.block w6.heap.size (Nat.lt_of_lt_of_le hF8l hb810.size)).trans ((hb810.block w6.heap.size hF8l).trans hF8)
              have hB11 := (hbM11.block w.heap.size (Nat.lt_of_lt_of_le hN8 hb810.size)).trans hB10
              have hb011 := below2 (below2 hb08 hb810) hbM11
              clear c0 c1 c2 c3 r0 r1 r2 hB8 hF8 hB10 hown10 hrM hbM hb11 hb810 hg10 hb08 hbM11
              obtain ⟨c0, c1, c2, c3⟩ := cells4 hB11
              obtain ⟨s0', s1', s2', s3'⟩ := two_cells hF11
              have hNe1 : ¬ w.heap.size = w6.heap.size := by omega
              have hNe2 : ¬ w6.heap.size = w.heap.size := by omega
              obtain ⟨q4, q5, hR2⟩ := two_after hF11 (.int .i64 (n : Int)) (.int .i64 15)
              obtain ⟨z0, z1, -, -⟩ := two_cells hR2
              have hbE := (hb011.setCell (p := ⟨w6.heap.size, 0, none⟩) (by simp; omega) (.int .i64 (n : Int))).setCell (p := ⟨w6.heap.size, 1, none⟩) (by simp; omega) (.int .i64 15)
              go_wp2_with fail
              refine (awake_any mx _ (two_kept hbE hm)).mono ?_
              rintro e w9 ⟨rfl, hb9⟩
              go_wp2
              go_ret
              exact ⟨by simp, below2 hbE hb9⟩
        · have hd2 : decide (ts.length ≤ k) = true := decide_eq_true (by omega)
          clear hf h80 h40 hnm h00 hopen
          go_enter Tryd.func7, Tryd.ntmps7
          go_wp2_with fail
          refine (HFew.out _ (hr.below hb0)).mono ?_
          rintro e w1 ⟨rfl, hb1⟩
          have hb01 := below2 hb0 hb1
          have hB1 := (hb1.block w.heap.size (by simp)).trans (heap_alloc_new w _)
          have hN1 : w.heap.size < w1.heap.size := (Array.getElem?_eq_some_iff.1 hB1).1
          obtain ⟨c0, c1, c2, c3⟩ := cells4 hB1
          go_wp2_with fail
          refine (HCk.out _ (hr.below hb01)).mono ?_
          rintro e w2 ⟨rfl, hb2⟩
          have hb02 := below2 hb01 hb2
          have hB2 := (hb2.block w.heap.size hN1).trans hB1
          have hN2 : w.heap.size < w2.heap.size := (Array.getElem?_eq_some_iff.1 hB2).1
          clear c0 c1 c2 c3
          obtain ⟨c0, c1, c2, c3⟩ := cells4 hB2
          go_wp2_with fail
          refine (awake_any mx _ (two_kept hb02 hm)).mono ?_
          rintro e w9 ⟨rfl, hb9⟩
          go_wp2
          go_ret
          exact ⟨by simp, below2 hb02 hb9⟩
    · obtain ⟨F, hF⟩ : ∃ F, F = checkS a ts b c := ⟨_, rfl⟩
      have hbd := check_bd a ts b c
      rw [← hF] at HCk hbd h00
      have hF2 : F.2 ≠ 0 := fun h => h00 (hbd.2.2 h)
      obtain ⟨F1, F2⟩ := F
      have hF2' : (F2 == 0) = false := beq_eq_false_iff_ne.2 hF2
      clear hf h80 h40 hnm h00 hopen hF hbd hF2
      go_enter Tryd.func7, Tryd.ntmps7
      go_wp2_with fail
      refine (HFew.out _ (hr.below hb0)).mono ?_
      rintro e w1 ⟨rfl, hb1⟩
      have hb01 := below2 hb0 hb1
      have hB1 := (hb1.block w.heap.size (by simp)).trans (heap_alloc_new w _)
      have hN1 : w.heap.size < w1.heap.size := (Array.getElem?_eq_some_iff.1 hB1).1
      obtain ⟨c0, c1, c2, c3⟩ := cells4 hB1
      go_wp2_with fail
      refine (HCk.out _ (hr.below hb01)).mono ?_
      rintro e w2 ⟨rfl, hb2⟩
      have hb02 := below2 hb01 hb2
      have hB2 := (hb2.block w.heap.size hN1).trans hB1
      have hN2 : w.heap.size < w2.heap.size := (Array.getElem?_eq_some_iff.1 hB2).1
      clear c0 c1 c2 c3
      obtain ⟨c0, c1, c2, c3⟩ := cells4 hB2
      go_wp2_with fail
      refine (awake_any mx _ (two_kept hb02 hm)).mono ?_
      rintro e w9 ⟨rfl, hb9⟩
      go_wp2
      go_ret
      exact ⟨by simp, below2 hb02 hb9⟩
  · have hff : fewS ts = false := by simpa using hf
    rw [hff] at HFew
    clear hf hff
    go_enter Tryd.func7, Tryd.ntmps7
    go_wp2_with fail
    refine (HFew.out _ (hr.below hb0)).mono ?_
    rintro e w1 ⟨rfl, hb1⟩
    have hb01 := below2 hb0 hb1
    go_wp2_with fail
    refine (awake_any mx _ (two_kept hb01 hm)).mono ?_
    rintro e w9 ⟨rfl, hb9⟩
    go_wp2
    go_ret
    exact ⟨by simp, below2 hb01 hb9⟩

end Go.Proofs.YtelacngphgebiaaDoor
