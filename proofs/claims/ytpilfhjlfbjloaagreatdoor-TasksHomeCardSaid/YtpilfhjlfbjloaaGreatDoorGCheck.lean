/-
  The walk of config.Check: it computes 'checkS'. Conditions: names of up to 100000 bytes.
-/
import Derived.Test.YtpilfhjlfbjloaaGreatDoorGTopic
namespace Go.Proofs.YtpilfhjlfbjloaaGreatDoor
open Go.RowKit Go.Maps

/-- A config, as the program has it. -/
abbrev cfgV (a : Int) (v : Value) (b c : Int) : Value := .agg #[.int .i64 a, v, .int .i64 b, .int .i64 c]
abbrev faultV (x : Int × Int) : Value := .agg #[.int .i64 x.1, .int .i64 x.2]

theorem two_cells {x : World} {g : Nat} {c0 c1 : Value} {t : TypeId} (h : x.heap[g]? = some (.cells #[c0, c1] t)) :
    x.cell? ⟨g, 0, none⟩ = some c0 ∧ x.cell? ⟨g, 1, none⟩ = some c1 ∧ x.frozen? ⟨g, 0, none⟩ = false ∧ x.frozen? ⟨g, 1, none⟩ = false := by
  simp [World.cell?, World.frozen?, h]

theorem gc_alloc_size (w : World) (o : Obj) : (w.alloc o).heap.size = w.heap.size + 1 := by simp

theorem alloc_old (w : World) (o : Obj) (i : Nat) (u : Obj) (h : w.heap[i]? = some u) : (w.alloc o).heap[i]? = some u :=
  ((below_new w o).block i (Array.getElem?_eq_some_iff.1 h).1).trans h

theorem five_blocks (w : World) (O0 O1 O2 O3 O4 : Obj) :
    (((((w.alloc O0).alloc O1).alloc O2).alloc O3).alloc O4).heap[w.heap.size]? = some O0 ∧ (((((w.alloc O0).alloc O1).alloc O2).alloc O3).alloc O4).heap[w.heap.size + 1]? = some O1 ∧
    (((((w.alloc O0).alloc O1).alloc O2).alloc O3).alloc O4).heap[w.heap.size + 1 + 1]? = some O2 ∧ (((((w.alloc O0).alloc O1).alloc O2).alloc O3).alloc O4).heap[w.heap.size + 1 + 1 + 1]? = some O3 ∧
    (((((w.alloc O0).alloc O1).alloc O2).alloc O3).alloc O4).heap[w.heap.size + 1 + 1 + 1 + 1]? = some O4 ∧ (((((w.alloc O0).alloc O1).alloc O2).alloc O3).alloc O4).heap.size = w.heap.size + 5 ∧
    Below w.heap.size w (((((w.alloc O0).alloc O1).alloc O2).alloc O3).alloc O4) := by
  have n0 := heap_alloc_new w O0
  have n1 := heap_alloc_new (w.alloc O0) O1
  have n2 := heap_alloc_new ((w.alloc O0).alloc O1) O2
  have n3 := heap_alloc_new (((w.alloc O0).alloc O1).alloc O2) O3
  have n4 := heap_alloc_new ((((w.alloc O0).alloc O1).alloc O2).alloc O3) O4
  rw [gc_alloc_size] at n1
  rw [gc_alloc_size, gc_alloc_size] at n2
  rw [gc_alloc_size, gc_alloc_size, gc_alloc_size] at n3
  rw [gc_alloc_size, gc_alloc_size, gc_alloc_size, gc_alloc_size] at n4
  exact ⟨alloc_old _ _ _ _ (alloc_old _ _ _ _ (alloc_old _ _ _ _ (alloc_old _ _ _ _ n0))), alloc_old _ _ _ _ (alloc_old _ _ _ _ (alloc_old _ _ _ _ n1)), alloc_old _ _ _ _ (alloc_old _ _ _ _ n2), alloc_old _ _ _ _ n3, n4,
    by rw [gc_alloc_size, gc_alloc_size, gc_alloc_size, gc_alloc_size, gc_alloc_size], below3 (below_new2 w _ _) (below_new2 _ _ _) (below_new _ _)⟩

theorem cells5 {x : World} {g : Nat} {c0 c1 c2 c3 c4 : Value} {t : TypeId} (h : x.heap[g]? = some (.cells #[c0, c1, c2, c3, c4] t)) :
    x.cell? ⟨g, 0, none⟩ = some c0 ∧ x.cell? ⟨g, 1, none⟩ = some c1 ∧ x.cell? ⟨g, 2, none⟩ = some c2 ∧ x.cell? ⟨g, 3, none⟩ = some c3 ∧ x.cell? ⟨g, 4, none⟩ = some c4 := by
  simp [World.cell?, h]
theorem cells4 {x : World} {g : Nat} {c0 c1 c2 c3 : Value} {t : TypeId} (h : x.heap[g]? = some (.cells #[c0, c1, c2, c3] t)) :
    x.cell? ⟨g, 0, none⟩ = some c0 ∧ x.cell? ⟨g, 1, none⟩ = some c1 ∧ x.cell? ⟨g, 2, none⟩ = some c2 ∧ x.cell? ⟨g, 3, none⟩ = some c3 := by
  simp [World.cell?, h]

/-- A row of two cells, stored whole. -/
theorem two_after {x : World} {g : Nat} {c0 c1 : Value} {t : TypeId} (h : x.heap[g]? = some (.cells #[c0, c1] t)) (a b : Value) :
    (x.setCell ⟨g, 0, none⟩ a).cell? ⟨g, 1, none⟩ = some c1 ∧ (x.setCell ⟨g, 0, none⟩ a).frozen? ⟨g, 1, none⟩ = false ∧
    ((x.setCell ⟨g, 0, none⟩ a).setCell ⟨g, 1, none⟩ b).heap[g]? = some (.cells #[a, b] t) := by
  have h1 := heap_setCell_same x g 0 _ t a h
  have h2 := heap_setCell_same _ g 1 _ t b h1
  have h1' : (x.setCell ⟨g, 0, none⟩ a).heap[g]? = some (.cells #[a, c1] t) := by simpa using h1
  exact ⟨(two_cells h1').2.1, (two_cells h1').2.2.2, by simpa using h2⟩

set_option maxRecDepth 100000 in
set_option maxHeartbeats 1600000 in
theorem check_any (a b c : Int) (ts : List Tp) (v : Value) (w : World) (hr : Rd w v 3 ts.length (flatT ts)) (hts : ∀ t ∈ ts, t.1.size ≤ 9223372036854775807) :
    Calls Tryz.prog 12 #[cfgV a v b c] w fun e w' => e = .returned (faultV (checkS a ts b c)) ∧ Below w.heap.size w w' := by
  have hmm := @run_makeMap Tryz.prog
  obtain ⟨n, hn⟩ : ∃ n, ts.length = n := ⟨_, rfl⟩
  rw [hn] at hr
  obtain ⟨A, cc, rfl, hnc, hcm, hopen⟩ := id hr.shape
  by_cases ha : 1 ≤ a ∧ a ≤ 8
  · have hT : ∀ w J, w.cell? ⟨J, 0, none⟩ = some (.int .i64 a) → Calls Tryz.prog 40 #[.pointer (some ⟨J, 0, none⟩)] w fun e w' => e = .returned (.int .i64 0) ∧ w' = w := fun w J h0 => by
      have := jtasks_any J a w h0
      rwa [if_pos ha] at this
    have HT := hide hT
    by_cases hl : 1 ≤ n ∧ n ≤ 64
    · have hP : ∀ w J, w.cell? ⟨J, 1, none⟩ = some (.slice A n cc) → Calls Tryz.prog 41 #[.pointer (some ⟨J, 0, none⟩)] w fun e w' => e = .returned (.int .i64 0) ∧ w' = w := fun w J h0 => by
        have := jtopics_any J n cc A w h0
        rwa [if_pos hl] at this
      have HP := hide hP
      by_cases hbc : 1 ≤ b ∧ b ≤ 16 ∧ 1 ≤ c ∧ c ≤ 64
      · have hQ : ∀ w J, w.cell? ⟨J, 2, none⟩ = some (.int .i64 b) → w.cell? ⟨J, 3, none⟩ = some (.int .i64 c) → Calls Tryz.prog 42 #[.pointer (some ⟨J, 0, none⟩)] w fun e w' => e = .returned (.int .i64 0) ∧ w' = w := fun w J h0 h1 => by
          have := jrest_any J b c w h0 h1
          rwa [if_pos hbc] at this
        have HQ := hide hQ
        have hres : checkS a ts b c = topicsGo ts 0 [] := by rw [checkS, if_neg (by simpa using ha), hn, if_neg (by simpa using hl), if_neg (fun h => h hbc)]
        obtain ⟨F, hF⟩ : ∃ F, F = topicsGo ts 0 [] := ⟨_, rfl⟩
        rw [hres, ← hF]
        have HF := hide hF
        have hn64 := hl.2
        obtain ⟨bk, o, rfl, hb0, hc0⟩ := hopen (by omega)
        have Hc0 := hide hc0
        have Hn := hide hn
        clear hT hP hQ hres ha hl hbc hF hopen hr hc0 hn
        have Hts := hide hts
        clear hts
        go_enter Tryz.func12, Tryz.ntmps12
        go_wp2_with fail
        refine wp_loop_rounds 4 ?_
        rw [rounds_succ]
        go_wp2_with fail
        obtain ⟨hB0, hB1, hB2, hB3, hB4, hS5, hb5⟩ := five_blocks w (.cells #[.int .i64 a, .slice (some ⟨bk, o, none⟩) n cc, .int .i64 b, .int .i64 c] 29) (.cells #[.int .i64 0, .int .i64 0] 61) (.map #[] 0) (.cells #[.int .i64 a, .slice (some ⟨bk, o, none⟩) n cc, .int .i64 b, .int .i64 c, .map (some (w.heap.size + 1 + 1))] 99) (.cells #[.func (.func 40) #[.pointer (some ⟨w.heap.size + 1 + 1 + 1, 0, none⟩)] #[], .func (.func 41) #[.pointer (some ⟨w.heap.size + 1 + 1 + 1, 0, none⟩)] #[], .func (.func 42) #[.pointer (some ⟨w.heap.size + 1 + 1 + 1, 0, none⟩)] #[]] 100)
        have hmap5 := (World.ownsMap_made (H := Unit) ((w.alloc (.cells #[.int .i64 a, .slice (some ⟨bk, o, none⟩) n cc, .int .i64 b, .int .i64 c] 29)).alloc (.cells #[.int .i64 0, .int .i64 0] 61)) Tryz.prog 9 (plainElem Tryz.prog 3)).alloc (.cells #[.int .i64 a, .slice (some ⟨bk, o, none⟩) n cc, .int .i64 b, .int .i64 c, .map (some (w.heap.size + 1 + 1))] 99) |>.alloc (.cells #[.func (.func 40) #[.pointer (some ⟨w.heap.size + 1 + 1 + 1, 0, none⟩)] #[], .func (.func 41) #[.pointer (some ⟨w.heap.size + 1 + 1 + 1, 0, none⟩)] #[], .func (.func 42) #[.pointer (some ⟨w.heap.size + 1 + 1 + 1, 0, none⟩)] #[]] 100)
        rw [gc_alloc_size, gc_alloc_size] at hmap5
        generalize (((((w.alloc (.cells #[.int .i64 a, .slice (some ⟨bk, o, none⟩) n cc, .int .i64 b, .int .i64 c] 29)).alloc (.cells #[.int .i64 0, .int .i64 0] 61)).alloc (.map #[] 0)).alloc (.cells #[.int .i64 a, .slice (some ⟨bk, o, none⟩) n cc, .int .i64 b, .int .i64 c, .map (some (w.heap.size + 1 + 1))] 99)).alloc (.cells #[.func (.func 40) #[.pointer (some ⟨w.heap.size + 1 + 1 + 1, 0, none⟩)] #[], .func (.func 41) #[.pointer (some ⟨w.heap.size + 1 + 1 + 1, 0, none⟩)] #[], .func (.func 42) #[.pointer (some ⟨w.heap.size + 1 + 1 + 1, 0, none⟩)] #[]] 100)) = X at *
        obtain ⟨j0, j1, j2, j3, j4⟩ := cells5 hB3
        obtain ⟨f0, f1, f2⟩ := three_cells hB4
        obtain ⟨e0, e1, e2, e3⟩ := two_cells hB1
        refine (HT.out _ _ j0).mono ?_
        rintro e X ⟨rfl, rfl⟩
        go_wp2_with fail
        rw [rounds_succ]
        go_wp2_with fail
        refine (HP.out _ _ j1).mono ?_
        rintro e X ⟨rfl, rfl⟩
        go_wp2_with fail
        rw [rounds_succ]
        go_wp2_with fail
        refine (HQ.out _ _ j2 j3).mono ?_
        rintro e X ⟨rfl, rfl⟩
        go_wp2_with fail
        rw [rounds_succ]
        obtain ⟨k0, k1, k2, k3⟩ := cells4 hB0
        go_wp2_with fail
        clear k0 k1 k2 k3 f0 f1 f2 j0 j1 j2 j3 j4 e0 e1 e2 e3 HT HP HQ hB0 hB2 hB4
        go_loopw [35] (fun i wr => ∃ (k : Nat) (seen : List (List UInt8)) (D : DataW Unit), k ≤ n ∧ i = .int .i64 k ∧ Hid (F = topicsGo (ts.drop k) k seen) ∧ HasSeen D seen ∧ wr.ownsMap Tryz.prog 9 (plainElem Tryz.prog 3) (w.heap.size + 1 + 1) k D ∧ X.grownBy wr (some (w.heap.size + 1 + 1))) (fun i _ => n - (intOf i).toNat)
        case atStart => exact ⟨0, [], .map [], Nat.zero_le _, rfl, hide (by rw [HF.out, List.drop_zero]), fun x => rfl, hmap5, ⟨rfl, rfl, rfl, Nat.le_refl _, fun _ _ _ => rfl⟩⟩
        case round =>
          obtain ⟨k, seen, D, hk, rfl, Hk, hseen, hmap, hg⟩ := hrel
          clear hmap5 HF
          have hBr1 := (hg.block (w.heap.size + 1) (by omega) (fun e => by have := Option.some.inj e; omega)).trans hB1
          by_cases hlt : k < n
          · have hkl : k < ts.length := by have := Hn.out; omega
            obtain ⟨t, ht⟩ : ∃ t, t = ts[k] := ⟨_, rfl⟩
            obtain ⟨hx0, hx1, hx2⟩ := flatT_at ts k hkl
            rw [← ht] at hx0 hx1 hx2
            have hdr : ts.drop k = t :: ts.drop (k + 1) := by rw [List.drop_eq_getElem_cons hkl, ht]
            have hsz : t.1.size ≤ 9223372036854775807 := by rw [ht]; exact Hts.out _ (List.getElem_mem hkl)
            have hBr3 := (hg.block (w.heap.size + 1 + 1 + 1) (by omega) (fun e => by have := Option.some.inj e; omega)).trans hB3
            obtain ⟨-, c1, -, -, c4⟩ := cells5 hBr3
            have hkeep : ∀ (p : Addr) (u : Value), p.block < w.heap.size → w.cell? p = some u → wr.cell? p = some u := fun p u hp hu =>
              (World.cell?_of_block (hg.block p.block (by omega) (fun e => by have := Option.some.inj e; omega))).trans ((hb5.cell hp).trans hu)
            have p0 := hkeep ⟨bk, o + k * 3, none⟩ _ hb0 (Hc0.out _ _ hx0)
            have p1 := hkeep ⟨bk, o + k * 3 + 1, none⟩ _ hb0 (Hc0.out _ _ hx1)
            have p2 := hkeep ⟨bk, o + k * 3 + 2, none⟩ _ hb0 (Hc0.out _ _ hx2)
            have HC := hide (jtopic_any _ _ bk o n cc k t seen D wr c1 c4 p0 p1 p2 hlt hn64 hsz hmap hseen)
            have hw1 : w.heap.size + 1 < wr.heap.size := by have := hg.size; omega
            obtain ⟨z, hz⟩ : ∃ z, z = topicS seen t := ⟨_, rfl⟩
            rw [← hz] at HC
            by_cases hz0 : z = 0
            · have hnx : topicsGo (ts.drop k) k seen = topicsGo (ts.drop (k + 1)) (k + 1) (seen ++ [t.1.data.toList]) := by rw [hdr, topicsGo, if_neg (by rw [← hz]; simpa using hz0)]
              have Hnx := hide (show F = topicsGo (ts.drop (k + 1)) (k + 1) (seen ++ [t.1.data.toList]) from Hk.out.trans hnx)
              subst hz0
              clear hz hnx Hk hdr hx0 hx1 hx2 hkeep p0 p1 p2 c1 c4 hkl ht hBr1 hBr3
              go_wp2_with (go_at_call 43; refine HC.out.mono ?_; rintro e w2 ⟨rfl, hg2, hD2⟩)
              obtain ⟨D2, hmap2, hseen2⟩ := hD2 (by trivial)
              go_roundw
              case rel => exact ⟨k + 1, _, D2, by omega, by go_num, Hnx, hseen2, hmap2, hg.trans hg2⟩
              case measure => simp [intOf]; omega
            · have hnz : (z != 0) = true := by simpa using hz0
              have hnx : F = ((k : Int), z) := by rw [Hk.out, hdr, topicsGo, if_pos (by rw [← hz]; exact hz0), ← hz]
              have Hnx := hide hnx
              clear hz hnx Hk hdr hx0 hx1 hx2 hkeep p0 p1 p2 c1 c4 hkl ht hBr3 hz0
              go_wp2_with (go_at_call 43; refine HC.out.mono ?_; rintro e w2 ⟨rfl, hg2, -⟩; have hB2 := (hg2.block (w.heap.size + 1) hw1 (fun e => by have := Option.some.inj e; omega)).trans hBr1; obtain ⟨e0, e1, e2, e3⟩ := two_cells hB2; obtain ⟨q4, q5, hR2⟩ := two_after hB2 (.int .i64 k) (.int .i64 z); obtain ⟨r0, r1, -, -⟩ := two_cells hR2)
              have hresl : Tryz.f12.results = #[.cell 2 61] := by kernel_rfl
              refine bodyPost_ret (v := faultV F) ?_ rfl ⟨rfl, ?_⟩
              · rw [Hnx.out]
                simp only [results, hresl]
                go_simp
              · exact ((hb5.grown (hg.trans hg2) (by omega) (fun q hq => by cases hq; omega)).setCell (by simp) _).setCell (by simp) _
          · have hkn : k = n := by omega
            subst hkn
            have hnx : F = (0, 0) := by rw [Hk.out, List.drop_eq_nil_of_le (by have := Hn.out; omega), topicsGo]
            have Hnx := hide hnx
            obtain ⟨e0, e1, e2, e3⟩ := two_cells hBr1
            obtain ⟨q4, q5, hR2⟩ := two_after hBr1 (.int .i64 0) (.int .i64 0)
            obtain ⟨r0, r1, -, -⟩ := two_cells hR2
            clear Hk hnx
            go_wp2
            have hresl : Tryz.f12.results = #[.cell 2 61] := by kernel_rfl
            refine bodyPost_ret (v := faultV F) ?_ rfl ⟨rfl, ?_⟩
            · rw [Hnx.out]
              simp only [results, hresl]
              go_simp
            · exact ((hb5.grown hg (by omega) (fun q hq => by cases hq; omega)).setCell (by simp) _).setCell (by simp) _
      · have hQ : ∀ w J, w.cell? ⟨J, 2, none⟩ = some (.int .i64 b) → w.cell? ⟨J, 3, none⟩ = some (.int .i64 c) → Calls Tryz.prog 42 #[.pointer (some ⟨J, 0, none⟩)] w fun e w' => e = .returned (.int .i64 10) ∧ w' = w := fun w J h0 h1 => by
          have := jrest_any J b c w h0 h1
          rwa [if_neg hbc] at this
        have HQ := hide hQ
        have hres : checkS a ts b c = (-1, 10) := by rw [checkS, if_neg (by simpa using ha), hn, if_neg (by simpa using hl), if_pos hbc]
        rw [hres]
        clear hT hP hQ hres ha hl hbc hopen hr hn hts
        go_enter Tryz.func12, Tryz.ntmps12
        go_wp2_with fail
        refine wp_loop_rounds 4 ?_
        rw [rounds_succ]
        go_wp2_with fail
        obtain ⟨hB0, hB1, hB2, hB3, hB4, hS5, hb5⟩ := five_blocks w (.cells #[.int .i64 a, .slice A n cc, .int .i64 b, .int .i64 c] 29) (.cells #[.int .i64 0, .int .i64 0] 61) (.map #[] 0) (.cells #[.int .i64 a, .slice A n cc, .int .i64 b, .int .i64 c, .map (some (w.heap.size + 1 + 1))] 99) (.cells #[.func (.func 40) #[.pointer (some ⟨w.heap.size + 1 + 1 + 1, 0, none⟩)] #[], .func (.func 41) #[.pointer (some ⟨w.heap.size + 1 + 1 + 1, 0, none⟩)] #[], .func (.func 42) #[.pointer (some ⟨w.heap.size + 1 + 1 + 1, 0, none⟩)] #[]] 100)
        have hmap5 := (World.ownsMap_made (H := Unit) ((w.alloc (.cells #[.int .i64 a, .slice A n cc, .int .i64 b, .int .i64 c] 29)).alloc (.cells #[.int .i64 0, .int .i64 0] 61)) Tryz.prog 9 (plainElem Tryz.prog 3)).alloc (.cells #[.int .i64 a, .slice A n cc, .int .i64 b, .int .i64 c, .map (some (w.heap.size + 1 + 1))] 99) |>.alloc (.cells #[.func (.func 40) #[.pointer (some ⟨w.heap.size + 1 + 1 + 1, 0, none⟩)] #[], .func (.func 41) #[.pointer (some ⟨w.heap.size + 1 + 1 + 1, 0, none⟩)] #[], .func (.func 42) #[.pointer (some ⟨w.heap.size + 1 + 1 + 1, 0, none⟩)] #[]] 100)
        rw [gc_alloc_size, gc_alloc_size] at hmap5
        generalize (((((w.alloc (.cells #[.int .i64 a, .slice A n cc, .int .i64 b, .int .i64 c] 29)).alloc (.cells #[.int .i64 0, .int .i64 0] 61)).alloc (.map #[] 0)).alloc (.cells #[.int .i64 a, .slice A n cc, .int .i64 b, .int .i64 c, .map (some (w.heap.size + 1 + 1))] 99)).alloc (.cells #[.func (.func 40) #[.pointer (some ⟨w.heap.size + 1 + 1 + 1, 0, none⟩)] #[], .func (.func 41) #[.pointer (some ⟨w.heap.size + 1 + 1 + 1, 0, none⟩)] #[], .func (.func 42) #[.pointer (some ⟨w.heap.size + 1 + 1 + 1, 0, none⟩)] #[]] 100)) = X at *
        obtain ⟨j0, j1, j2, j3, j4⟩ := cells5 hB3
        obtain ⟨f0, f1, f2⟩ := three_cells hB4
        obtain ⟨e0, e1, e2, e3⟩ := two_cells hB1
        refine (HT.out _ _ j0).mono ?_
        rintro e X ⟨rfl, rfl⟩
        go_wp2_with fail
        rw [rounds_succ]
        go_wp2_with fail
        refine (HP.out _ _ j1).mono ?_
        rintro e X ⟨rfl, rfl⟩
        go_wp2_with fail
        rw [rounds_succ]
        go_wp2_with fail
        refine (HQ.out _ _ j2 j3).mono ?_
        rintro e X ⟨rfl, rfl⟩
        clear hmap5 hmm
        obtain ⟨q4, q5, hR2⟩ := two_after hB1 (.int .i64 (-1)) (.int .i64 10)
        obtain ⟨r0, r1, -, -⟩ := two_cells hR2
        go_wp2
        have hresl : Tryz.f12.results = #[.cell 2 61] := by kernel_rfl
        refine bodyPost_ret (v := faultV (-1, 10)) ?_ rfl ⟨rfl, ?_⟩
        · simp only [results, hresl]
          go_simp
        · exact (hb5.setCell (by simp) _).setCell (by simp) _
    · have hP : ∀ w J, w.cell? ⟨J, 1, none⟩ = some (.slice A n cc) → Calls Tryz.prog 41 #[.pointer (some ⟨J, 0, none⟩)] w fun e w' => e = .returned (.int .i64 12) ∧ w' = w := fun w J h0 => by
        have := jtopics_any J n cc A w h0
        rwa [if_neg hl] at this
      have HP := hide hP
      have hres : checkS a ts b c = (-1, 12) := by rw [checkS, if_neg (by simpa using ha), hn, if_pos hl]
      rw [hres]
      clear hT hP hres ha hl hopen hr hn hts
      go_enter Tryz.func12, Tryz.ntmps12
      go_wp2_with fail
      refine wp_loop_rounds 4 ?_
      rw [rounds_succ]
      go_wp2_with fail
      obtain ⟨hB0, hB1, hB2, hB3, hB4, hS5, hb5⟩ := five_blocks w (.cells #[.int .i64 a, .slice A n cc, .int .i64 b, .int .i64 c] 29) (.cells #[.int .i64 0, .int .i64 0] 61) (.map #[] 0) (.cells #[.int .i64 a, .slice A n cc, .int .i64 b, .int .i64 c, .map (some (w.heap.size + 1 + 1))] 99) (.cells #[.func (.func 40) #[.pointer (some ⟨w.heap.size + 1 + 1 + 1, 0, none⟩)] #[], .func (.func 41) #[.pointer (some ⟨w.heap.size + 1 + 1 + 1, 0, none⟩)] #[], .func (.func 42) #[.pointer (some ⟨w.heap.size + 1 + 1 + 1, 0, none⟩)] #[]] 100)
      have hmap5 := (World.ownsMap_made (H := Unit) ((w.alloc (.cells #[.int .i64 a, .slice A n cc, .int .i64 b, .int .i64 c] 29)).alloc (.cells #[.int .i64 0, .int .i64 0] 61)) Tryz.prog 9 (plainElem Tryz.prog 3)).alloc (.cells #[.int .i64 a, .slice A n cc, .int .i64 b, .int .i64 c, .map (some (w.heap.size + 1 + 1))] 99) |>.alloc (.cells #[.func (.func 40) #[.pointer (some ⟨w.heap.size + 1 + 1 + 1, 0, none⟩)] #[], .func (.func 41) #[.pointer (some ⟨w.heap.size + 1 + 1 + 1, 0, none⟩)] #[], .func (.func 42) #[.pointer (some ⟨w.heap.size + 1 + 1 + 1, 0, none⟩)] #[]] 100)
      rw [gc_alloc_size, gc_alloc_size] at hmap5
      generalize (((((w.alloc (.cells #[.int .i64 a, .slice A n cc, .int .i64 b, .int .i64 c] 29)).alloc (.cells #[.int .i64 0, .int .i64 0] 61)).alloc (.map #[] 0)).alloc (.cells #[.int .i64 a, .slice A n cc, .int .i64 b, .int .i64 c, .map (some (w.heap.size + 1 + 1))] 99)).alloc (.cells #[.func (.func 40) #[.pointer (some ⟨w.heap.size + 1 + 1 + 1, 0, none⟩)] #[], .func (.func 41) #[.pointer (some ⟨w.heap.size + 1 + 1 + 1, 0, none⟩)] #[], .func (.func 42) #[.pointer (some ⟨w.heap.size + 1 + 1 + 1, 0, none⟩)] #[]] 100)) = X at *
      obtain ⟨j0, j1, j2, j3, j4⟩ := cells5 hB3
      obtain ⟨f0, f1, f2⟩ := three_cells hB4
      obtain ⟨e0, e1, e2, e3⟩ := two_cells hB1
      refine (HT.out _ _ j0).mono ?_
      rintro e X ⟨rfl, rfl⟩
      go_wp2_with fail
      rw [rounds_succ]
      go_wp2_with fail
      refine (HP.out _ _ j1).mono ?_
      rintro e X ⟨rfl, rfl⟩
      clear hmap5 hmm
      obtain ⟨q4, q5, hR2⟩ := two_after hB1 (.int .i64 (-1)) (.int .i64 12)
      obtain ⟨r0, r1, -, -⟩ := two_cells hR2
      go_wp2
      have hresl : Tryz.f12.results = #[.cell 2 61] := by kernel_rfl
      refine bodyPost_ret (v := faultV (-1, 12)) ?_ rfl ⟨rfl, ?_⟩
      · simp only [results, hresl]
        go_simp
      · exact (hb5.setCell (by simp) _).setCell (by simp) _
  · have hres : checkS a ts b c = (-1, 10) := by rw [checkS, if_pos ha]
    rw [hres]
    have hT : ∀ w J, w.cell? ⟨J, 0, none⟩ = some (.int .i64 a) → Calls Tryz.prog 40 #[.pointer (some ⟨J, 0, none⟩)] w fun e w' => e = .returned (.int .i64 10) ∧ w' = w := fun w J h0 => by
      have := jtasks_any J a w h0
      rwa [if_neg ha] at this
    have HT := hide hT
    clear hT hres ha hr hopen
    go_enter Tryz.func12, Tryz.ntmps12
    go_wp2_with fail
    refine wp_loop_rounds 4 ?_
    rw [rounds_succ]
    go_wp2_with fail
    obtain ⟨hB0, hB1, hB2, hB3, hB4, hS5, hb5⟩ := five_blocks w (.cells #[.int .i64 a, .slice A n cc, .int .i64 b, .int .i64 c] 29) (.cells #[.int .i64 0, .int .i64 0] 61) (.map #[] 0) (.cells #[.int .i64 a, .slice A n cc, .int .i64 b, .int .i64 c, .map (some (w.heap.size + 1 + 1))] 99) (.cells #[.func (.func 40) #[.pointer (some ⟨w.heap.size + 1 + 1 + 1, 0, none⟩)] #[], .func (.func 41) #[.pointer (some ⟨w.heap.size + 1 + 1 + 1, 0, none⟩)] #[], .func (.func 42) #[.pointer (some ⟨w.heap.size + 1 + 1 + 1, 0, none⟩)] #[]] 100)
    have hmap5 := (World.ownsMap_made (H := Unit) ((w.alloc (.cells #[.int .i64 a, .slice A n cc, .int .i64 b, .int .i64 c] 29)).alloc (.cells #[.int .i64 0, .int .i64 0] 61)) Tryz.prog 9 (plainElem Tryz.prog 3)).alloc (.cells #[.int .i64 a, .slice A n cc, .int .i64 b, .int .i64 c, .map (some (w.heap.size + 1 + 1))] 99) |>.alloc (.cells #[.func (.func 40) #[.pointer (some ⟨w.heap.size + 1 + 1 + 1, 0, none⟩)] #[], .func (.func 41) #[.pointer (some ⟨w.heap.size + 1 + 1 + 1, 0, none⟩)] #[], .func (.func 42) #[.pointer (some ⟨w.heap.size + 1 + 1 + 1, 0, none⟩)] #[]] 100)
    rw [gc_alloc_size, gc_alloc_size] at hmap5
    generalize (((((w.alloc (.cells #[.int .i64 a, .slice A n cc, .int .i64 b, .int .i64 c] 29)).alloc (.cells #[.int .i64 0, .int .i64 0] 61)).alloc (.map #[] 0)).alloc (.cells #[.int .i64 a, .slice A n cc, .int .i64 b, .int .i64 c, .map (some (w.heap.size + 1 + 1))] 99)).alloc (.cells #[.func (.func 40) #[.pointer (some ⟨w.heap.size + 1 + 1 + 1, 0, none⟩)] #[], .func (.func 41) #[.pointer (some ⟨w.heap.size + 1 + 1 + 1, 0, none⟩)] #[], .func (.func 42) #[.pointer (some ⟨w.heap.size + 1 + 1 + 1, 0, none⟩)] #[]] 100)) = X at *
    obtain ⟨j0, j1, j2, j3, j4⟩ := cells5 hB3
    obtain ⟨f0, f1, f2⟩ := three_cells hB4
    obtain ⟨e0, e1, e2, e3⟩ := two_cells hB1
    refine (HT.out _ _ j0).mono ?_
    rintro e X ⟨rfl, rfl⟩
    clear hmap5 hmm
    obtain ⟨q4, q5, hR2⟩ := two_after hB1 (.int .i64 (-1)) (.int .i64 10)
    obtain ⟨r0, r1, -, -⟩ := two_cells hR2
    go_wp2
    have hresl : Tryz.f12.results = #[.cell 2 61] := by kernel_rfl
    refine bodyPost_ret (v := faultV (-1, 10)) ?_ rfl ⟨rfl, ?_⟩
    · simp only [results, hresl]
      go_simp
    · exact (hb5.setCell (by simp) _).setCell (by simp) _

end Go.Proofs.YtpilfhjlfbjloaaGreatDoor
