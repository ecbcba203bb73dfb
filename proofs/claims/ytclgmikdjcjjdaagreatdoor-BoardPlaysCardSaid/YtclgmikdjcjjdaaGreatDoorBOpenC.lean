/-
  The walk of config.Check: it computes 'checkS'. Conditions: names of up to 100000 bytes. An argument that is a config, opened into its numbers and names. Conditions: none.
-/
import Derived.Test.YtclgmikdjcjjdaaGreatDoorGTopic
import Derived.Test.YtclgmikdjcjjdaaGreatDoorBFrame
import Derived.Lib.SmallJoins
namespace Go.Proofs.YtclgmikdjcjjdaaGreatDoor
open Go.RowKit Go.Maps

/-- A config, as the program has it. -/
abbrev cfgV (a : Int) (v : Value) (b c : Int) : Value := .agg #[.int .i64 a, v, .int .i64 b, .int .i64 c]
abbrev faultV (x : Int × Int) : Value := .agg #[.int .i64 x.1, .int .i64 x.2]

theorem two_cells {x : World} {g : Nat} {c0 c1 : Value} {t : TypeId} (h : x.heap[g]? = some (.cells #[c0, c1] t)) :
    x.cell? ⟨g, 0, none⟩ = some c0 ∧ x.cell? ⟨g, 1, none⟩ = some c1 ∧ x.frozen? ⟨g, 0, none⟩ = false ∧ x.frozen? ⟨g, 1, none⟩ = false := by
  simp [World.cell?, World.frozen?, h]

theorem gc_alloc_size (w : World) (o : Obj) : (w.alloc o).heap.size = w.heap.size + 1 := by simp

theorem alloc_old (w : World) (o : Obj) (i : Nat) (u : Obj) (h : w.heap[i]? = some u) : (w.alloc o).heap[i]? = some u :=
  ((below_new w o).block i (Array.getElem?_eq_some_iff.1 h).1).trans h

theorem five_blocks (w : World) (O0 O1 O2 O3 O4 : Obj) :
    (((((w.alloc O0).alloc O1).alloc O2).alloc O3).alloc O4).heap[w.heap.size]? = some O0 ∧ (((((w.alloc O0).alloc O1).alloc O2).alloc O3).alloc O4).heap[w.heap.size + 1]? = some O1 ∧
    (((((w.alloc O0).alloc O1).alloc O2).alloc O3).alloc O4).heap[w.heap.size + 1 + 1]? = some O2 ∧ (((((w.alloc O0).alloc O1).alloc O2).alloc O3).alloc O4).heap[w.heap.size + 1 + 1 + 1]? = some O3 ∧
    (((((w.alloc O0).alloc O1).alloc O2).alloc O3).alloc O4).heap[w.heap.size + 1 + 1 + 1 + 1]? = some O4 ∧ (((((w.alloc O0).alloc O1).alloc O2).alloc O3).alloc O4).heap.size = w.heap.size + 5 ∧
    Below w.heap.size w (((((w.alloc O0).alloc O1).alloc O2).alloc O3).alloc O4) := by
  have n0 := heap_alloc_new w O0
  have n1 := heap_alloc_new (w.alloc O0) O1
  have n2 := heap_alloc_new ((w.alloc O0).alloc O1) O2
  have n3 := heap_alloc_new (((w.alloc O0).alloc O1).alloc O2) O3
  have n4 := heap_alloc_new ((((w.alloc O0).alloc O1).alloc O2).alloc O3) O4
  rw [gc_alloc_size] at n1
  rw [gc_alloc_size, gc_alloc_size] at n2
  rw [gc_alloc_size, gc_alloc_size, gc_alloc_size] at n3
  rw [gc_alloc_size, gc_alloc_size, gc_alloc_size, gc_alloc_size] at n4
  exact ⟨alloc_old _ _ _ _ (alloc_old _ _ _ _ (alloc_old _ _ _ _ (alloc_old _ _ _ _ n0))), alloc_old _ _ _ _ (alloc_old _ _ _ _ (alloc_old _ _ _ _ n1)), alloc_old _ _ _ _ (alloc_old _ _ _ _ n2), alloc_old _ _ _ _ n3, n4,
    by rw [gc_alloc_size, gc_alloc_size, gc_alloc_size, gc_alloc_size, gc_alloc_size], below3 (below_new2 w _ _) (below_new2 _ _ _) (below_new _ _)⟩

theorem cells5 {x : World} {g : Nat} {c0 c1 c2 c3 c4 : Value} {t : TypeId} (h : x.heap[g]? = some (.cells #[c0, c1, c2, c3, c4] t)) :
    x.cell? ⟨g, 0, none⟩ = some c0 ∧ x.cell? ⟨g, 1, none⟩ = some c1 ∧ x.cell? ⟨g, 2, none⟩ = some c2 ∧ x.cell? ⟨g, 3, none⟩ = some c3 ∧ x.cell? ⟨g, 4, none⟩ = some c4 := by
  simp [World.cell?, h]
theorem cells4 {x : World} {g : Nat} {c0 c1 c2 c3 : Value} {t : TypeId} (h : x.heap[g]? = some (.cells #[c0, c1, c2, c3] t)) :
    x.cell? ⟨g, 0, none⟩ = some c0 ∧ x.cell? ⟨g, 1, none⟩ = some c1 ∧ x.cell? ⟨g, 2, none⟩ = some c2 ∧ x.cell? ⟨g, 3, none⟩ = some c3 := by
  simp [World.cell?, h]

/-- A row of two cells, stored whole. -/
theorem two_after {x : World} {g : Nat} {c0 c1 : Value} {t : TypeId} (h : x.heap[g]? = some (.cells #[c0, c1] t)) (a b : Value) :
    (x.setCell ⟨g, 0, none⟩ a).cell? ⟨g, 1, none⟩ = some c1 ∧ (x.setCell ⟨g, 0, none⟩ a).frozen? ⟨g, 1, none⟩ = false ∧
    ((x.setCell ⟨g, 0, none⟩ a).setCell ⟨g, 1, none⟩ b).heap[g]? = some (.cells #[a, b] t) := by
  have h1 := heap_setCell_same x g 0 _ t a h
  have h2 := heap_setCell_same _ g 1 _ t b h1
  have h1' : (x.setCell ⟨g, 0, none⟩ a).heap[g]? = some (.cells #[a, c1] t) := by simpa using h1
  exact ⟨(two_cells h1').2.1, (two_cells h1').2.2.2, by simpa using h2⟩

set_option maxRecDepth 100000 in
set_option maxHeartbeats 1600000 in
theorem check_any (a b c : Int) (ts : List Tp) (v : Value) (w : World) (hr : Rd w v 3 ts.length (flatT ts)) (hts : ∀ t ∈ ts, t.1.size ≤ 9223372036854775807) :
    Calls Tryz.prog 20 #[cfgV a v b c] w fun e w' => e = .returned (faultV (checkS a ts b c)) ∧ Below w.heap.size w w' := by
  have hmm := @run_makeMap Tryz.prog
  obtain ⟨n, hn⟩ : ∃ n, ts.length = n := ⟨_, rfl⟩
  rw [hn] at hr
  obtain ⟨A, cc, rfl, hnc, hcm, hopen⟩ := id hr.shape
  by_cases ha : 1 ≤ a ∧ a ≤ 8
  · have hT : ∀ w J, w.cell? ⟨J, 0, none⟩ = some (.int .i64 a) → Calls Tryz.prog 47 #[.pointer (some ⟨J, 0, none⟩)] w fun e w' => e = .returned (.int .i64 0) ∧ w' = w := fun w J h0 => by
      have := jtasks_any J a w h0
      rwa [if_pos ha] at this
    have HT := hide hT
    by_cases hl : 1 ≤ n ∧ n ≤ 64
    · have hP : ∀ w J, w.cell? ⟨J, 1, none⟩ = some (.slice A n cc) → Calls Tryz.prog 48 #[.pointer (some ⟨J, 0, none⟩)] w fun e w' => e = .returned (.int .i64 0) ∧ w' = w := fun w J h0 => by
        have := jtopics_any J n cc A w h0
        rwa [if_pos hl] at this
      have HP := hide hP
      by_cases hbc : 1 ≤ b ∧ b ≤ 16 ∧ 1 ≤ c ∧ c ≤ 64
      · have hQ : ∀ w J, w.cell? ⟨J, 2, none⟩ = some (.int .i64 b) → w.cell? ⟨J, 3, none⟩ = some (.int .i64 c) → Calls Tryz.prog 49 #[.pointer (some ⟨J, 0, none⟩)] w fun e w' => e = .returned (.int .i64 0) ∧ w' = w := fun w J h0 h1 => by
          have := jrest_any J b c w h0 h1
          rwa [if_pos hbc] at this
        have HQ := hide hQ
        have hres : checkS a ts b c = topicsGo ts 0 [] := by rw [checkS, if_neg (by simpa using ha), hn, if_neg (by simpa using hl), if_neg (fun h => h hbc)]
        obtain ⟨F, hF⟩ : ∃ F, F = topicsGo ts 0 [] := ⟨_, rfl⟩
        rw [hres, ← hF]
        have HF := hide hF
        have hn64 := hl.2
        obtain ⟨bk, o, rfl, hb0, hc0⟩ := hopen (by omega)
        have Hc0 := hide hc0
        have Hn := hide hn
        clear hT hP hQ hres ha hl hbc hF hopen hr hc0 hn
        have Hts := hide hts
        clear hts
        go_enter Tryz.func20, Tryz.ntmps20
        go_wp2_with fail
        refine wp_loop_rounds 4 ?_
        rw [rounds_succ]
        go_wp2_with fail
        obtain ⟨hB0, hB1, hB2, hB3, hB4, hS5, hb5⟩ := five_blocks w (.cells #[.int .i64 a, .slice (some ⟨bk, o, none⟩) n cc, .int .i64 b, .int .i64 c] 24) (.cells #[.int .i64 0, .int .i64 0] 68) (.map #[] 0) (.cells #[.int .i64 a, .slice (some ⟨bk, o, none⟩) n cc, .int .i64 b, .int .i64 c, .map (some (w.heap.size + 1 + 1))] 107) (.cells #[.func (.func 47) #[.pointer (some ⟨w.heap.size + 1 + 1 + 1, 0, none⟩)] #[], .func (.func 48) #[.pointer (some ⟨w.heap.size + 1 + 1 + 1, 0, none⟩)] #[], .func (.func 49) #[.pointer (some ⟨w.heap.size + 1 + 1 + 1, 0, none⟩)] #[]] 108)
        have hmap5 := (World.ownsMap_made (H := Unit) ((w.alloc (.cells #[.int .i64 a, .slice (some ⟨bk, o, none⟩) n cc, .int .i64 b, .int .i64 c] 24)).alloc (.cells #[.int .i64 0, .int .i64 0] 68)) Tryz.prog 9 (plainElem Tryz.prog 3)).alloc (.cells #[.int .i64 a, .slice (some ⟨bk, o, none⟩) n cc, .int .i64 b, .int .i64 c, .map (some (w.heap.size + 1 + 1))] 107) |>.alloc (.cells #[.func (.func 47) #[.pointer (some ⟨w.heap.size + 1 + 1 + 1, 0, none⟩)] #[], .func (.func 48) #[.pointer (some ⟨w.heap.size + 1 + 1 + 1, 0, none⟩)] #[], .func (.func 49) #[.pointer (some ⟨w.heap.size + 1 + 1 + 1, 0, none⟩)] #[]] 108)
        rw [gc_alloc_size, gc_alloc_size] at hmap5
        generalize (((((w.alloc (.cells #[.int .i64 a, .slice (some ⟨bk, o, none⟩) n cc, .int .i64 b, .int .i64 c] 24)).alloc (.cells #[.int .i64 0, .int .i64 0] 68)).alloc (.map #[] 0)).alloc (.cells #[.int .i64 a, .slice (some ⟨bk, o, none⟩) n cc, .int .i64 b, .int .i64 c, .map (some (w.heap.size + 1 + 1))] 107)).alloc (.cells #[.func (.func 47) #[.pointer (some ⟨w.heap.size + 1 + 1 + 1, 0, none⟩)] #[], .func (.func 48) #[.pointer (some ⟨w.heap.size + 1 + 1 + 1, 0, none⟩)] #[], .func (.func 49) #[.pointer (some ⟨w.heap.size + 1 + 1 + 1, 0, none⟩)] #[]] 108)) = X at *
        obtain ⟨j0, j1, j2, j3, j4⟩ := cells5 hB3
        obtain ⟨f0, f1, f2⟩ := three_cells hB4
        obtain ⟨e0, e1, e2, e3⟩ := two_cells hB1
        refine (HT.out _ _ j0).mono ?_
        rintro e X ⟨rfl, rfl⟩
        go_wp2_with fail
        rw [rounds_succ]
        go_wp2_with fail
        refine (HP.out _ _ j1).mono ?_
        rintro e X ⟨rfl, rfl⟩
        go_wp2_with fail
        rw [rounds_succ]
        go_wp2_with fail
        refine (HQ.out _ _ j2 j3).mono ?_
        rintro e X ⟨rfl, rfl⟩
        go_wp2_with fail
        rw [rounds_succ]
        obtain ⟨k0, k1, k2, k3⟩ := cells4 hB0
        go_wp2_with fail
        clear k0 k1 k2 k3 f0 f1 f2 j0 j1 j2 j3 j4 e0 e1 e2 e3 HT HP HQ hB0 hB2 hB4
        go_loopw [35] (fun i wr => ∃ (k : Nat) (seen : List (List UInt8)) (D : DataW Unit), k ≤ n ∧ i = .int .i64 k ∧ Hid (F = topicsGo (ts.drop k) k seen) ∧ HasSeen D seen ∧ wr.ownsMap Tryz.prog 9 (plainElem Tryz.prog 3) (w.heap.size + 1 + 1) k D ∧ X.grownBy wr (some (w.heap.size + 1 + 1))) (fun i _ => n - (intOf i).toNat)
        case atStart => exact ⟨0, [], .map [], Nat.zero_le _, rfl, hide (by rw [HF.out, List.drop_zero]), fun x => rfl, hmap5, ⟨rfl, rfl, rfl, Nat.le_refl _, fun _ _ _ => rfl⟩⟩
        case round =>
          obtain ⟨k, seen, D, hk, rfl, Hk, hseen, hmap, hg⟩ := hrel
          clear hmap5 HF
          have hBr1 := (hg.block (w.heap.size + 1) (by omega) (fun e => by have := Option.some.inj e; omega)).trans hB1
          by_cases hlt : k < n
          · have hkl : k < ts.length := by have := Hn.out; omega
            obtain ⟨t, ht⟩ : ∃ t, t = ts[k] := ⟨_, rfl⟩
            obtain ⟨hx0, hx1, hx2⟩ := flatT_at ts k hkl
            rw [← ht] at hx0 hx1 hx2
            have hdr : ts.drop k = t :: ts.drop (k + 1) := by rw [List.drop_eq_getElem_cons hkl, ht]
            have hsz : t.1.size ≤ 9223372036854775807 := by rw [ht]; exact Hts.out _ (List.getElem_mem hkl)
            have hBr3 := (hg.block (w.heap.size + 1 + 1 + 1) (by omega) (fun e => by have := Option.some.inj e; omega)).trans hB3
            obtain ⟨-, c1, -, -, c4⟩ := cells5 hBr3
            have hkeep : ∀ (p : Addr) (u : Value), p.block < w.heap.size → w.cell? p = some u → wr.cell? p = some u := fun p u hp hu =>
              (World.cell?_of_block (hg.block p.block (by omega) (fun e => by have := Option.some.inj e; omega))).trans ((hb5.cell hp).trans hu)
            have p0 := hkeep ⟨bk, o + k * 3, none⟩ _ hb0 (Hc0.out _ _ hx0)
            have p1 := hkeep ⟨bk, o + k * 3 + 1, none⟩ _ hb0 (Hc0.out _ _ hx1)
            have p2 := hkeep ⟨bk, o + k * 3 + 2, none⟩ _ hb0 (Hc0.out _ _ hx2)
            have HC := hide (jtopic_any _ _ bk o n cc k t seen D wr c1 c4 p0 p1 p2 hlt hn64 hsz hmap hseen)
            have hw1 : w.heap.size + 1 < wr.heap.size := by have := hg.size; omega
            obtain ⟨z, hz⟩ : ∃ z, z = topicS seen t := ⟨_, rfl⟩
            rw [← hz] at HC
            by_cases hz0 : z = 0
            · have hnx : topicsGo (ts.drop k) k seen = topicsGo (ts.drop (k + 1)) (k + 1) (seen ++ [t.1.data.toList]) := by rw [hdr, topicsGo, if_neg (by rw [← hz]; simpa using hz0)]
              have Hnx := hide (show F = topicsGo (ts.drop (k + 1)) (k + 1) (seen ++ [t.1.data.toList]) from Hk.out.trans hnx)
              subst hz0
              clear hz hnx Hk hdr hx0 hx1 hx2 hkeep p0 p1 p2 c1 c4 hkl ht hBr1 hBr3
              go_wp2_with (go_at_call 50; refine HC.out.mono ?_; rintro e w2 ⟨rfl, hg2, hD2⟩)
              obtain ⟨D2, hmap2, hseen2⟩ := hD2 (by trivial)
              go_roundw
              case rel => exact ⟨k + 1, _, D2, by omega, by go_num, Hnx, hseen2, hmap2, hg.trans hg2⟩
              case measure => simp [intOf]; omega
            · have hnz : (z != 0) = true := by simpa using hz0
              have hnx : F = ((k : Int), z) := by rw [Hk.out, hdr, topicsGo, if_pos (by rw [← hz]; exact hz0), ← hz]
              have Hnx := hide hnx
              clear hz hnx Hk hdr hx0 hx1 hx2 hkeep p0 p1 p2 c1 c4 hkl ht hBr3 hz0
              go_wp2_with (go_at_call 50; refine HC.out.mono ?_; rintro e w2 ⟨rfl, hg2, -⟩; have hB2 := (hg2.block (w.heap.size + 1) hw1 (fun e => by have := Option.some.inj e; omega)).trans hBr1; obtain ⟨e0, e1, e2, e3⟩ := two_cells hB2; obtain ⟨q4, q5, hR2⟩ := two_after hB2 (.int .i64 k) (.int .i64 z); obtain ⟨r0, r1, -, -⟩ := two_cells hR2)
              have hresl : Tryz.f20.results = #[.cell 2 68] := by kernel_rfl
              refine bodyPost_ret (v := faultV F) ?_ rfl ⟨rfl, ?_⟩
              · rw [Hnx.out]
                simp only [results, hresl]
                go_simp
              · exact ((hb5.grown (hg.trans hg2) (by omega) (fun q hq => by cases hq; omega)).setCell (by simp) _).setCell (by simp) _
          · have hkn : k = n := by omega
            subst hkn
            have hnx : F = (0, 0) := by rw [Hk.out, List.drop_eq_nil_of_le (by have := Hn.out; omega), topicsGo]
            have Hnx := hide hnx
            obtain ⟨e0, e1, e2, e3⟩ := two_cells hBr1
            obtain ⟨q4, q5, hR2⟩ := two_after hBr1 (.int .i64 0) (.int .i64 0)
            obtain ⟨r0, r1, -, -⟩ := two_cells hR2
            clear Hk hnx
            go_wp2
            have hresl : Tryz.f20.results = #[.cell 2 68] := by kernel_rfl
            refine bodyPost_ret (v := faultV F) ?_ rfl ⟨rfl, ?_⟩
            · rw [Hnx.out]
              simp only [results, hresl]
              go_simp
            · exact ((hb5.grown hg (by omega) (fun q hq => by cases hq; omega)).setCell (by simp) _).setCell (by simp) _
      · have hQ : ∀ w J, w.cell? ⟨J, 2, none⟩ = some (.int .i64 b) → w.cell? ⟨J, 3, none⟩ = some (.int .i64 c) → Calls Tryz.prog 49 #[.pointer (some ⟨J, 0, none⟩)] w fun e w' => e = .returned (.int .i64 10) ∧ w' = w := fun w J h0 h1 => by
          have := jrest_any J b c w h0 h1
          rwa [if_neg hbc] at this
        have HQ := hide hQ
        have hres : checkS a ts b c = (-1, 10) := by rw [checkS, if_neg (by simpa using ha), hn, if_neg (by simpa using hl), if_pos hbc]
        rw [hres]
        clear hT hP hQ hres ha hl hbc hopen hr hn hts
        go_enter Tryz.func20, Tryz.ntmps20
        go_wp2_with fail
        refine wp_loop_rounds 4 ?_
        rw [rounds_succ]
        go_wp2_with fail
        obtain ⟨hB0, hB1, hB2, hB3, hB4, hS5, hb5⟩ := five_blocks w (.cells #[.int .i64 a, .slice A n cc, .int .i64 b, .int .i64 c] 24) (.cells #[.int .i64 0, .int .i64 0] 68) (.map #[] 0) (.cells #[.int .i64 a, .slice A n cc, .int .i64 b, .int .i64 c, .map (some (w.heap.size + 1 + 1))] 107) (.cells #[.func (.func 47) #[.pointer (some ⟨w.heap.size + 1 + 1 + 1, 0, none⟩)] #[], .func (.func 48) #[.pointer (some ⟨w.heap.size + 1 + 1 + 1, 0, none⟩)] #[], .func (.func 49) #[.pointer (some ⟨w.heap.size + 1 + 1 + 1, 0, none⟩)] #[]] 108)
        have hmap5 := (World.ownsMap_made (H := Unit) ((w.alloc (.cells #[.int .i64 a, .slice A n cc, .int .i64 b, .int .i64 c] 24)).alloc (.cells #[.int .i64 0, .int .i64 0] 68)) Tryz.prog 9 (plainElem Tryz.prog 3)).alloc (.cells #[.int .i64 a, .slice A n cc, .int .i64 b, .int .i64 c, .map (some (w.heap.size + 1 + 1))] 107) |>.alloc (.cells #[.func (.func 47) #[.pointer (some ⟨w.heap.size + 1 + 1 + 1, 0, none⟩)] #[], .func (.func 48) #[.pointer (some ⟨w.heap.size + 1 + 1 + 1, 0, none⟩)] #[], .func (.func 49) #[.pointer (some ⟨w.heap.size + 1 + 1 + 1, 0, none⟩)] #[]] 108)
        rw [gc_alloc_size, gc_alloc_size] at hmap5
        generalize (((((w.alloc (.cells #[.int .i64 a, .slice A n cc, .int .i64 b, .int .i64 c] 24)).alloc (.cells #[.int .i64 0, .int .i64 0] 68)).alloc (.map #[] 0)).alloc (.cells #[.int .i64 a, .slice A n cc, .int .i64 b, .int .i64 c, .map (some (w.heap.size + 1 + 1))] 107)).alloc (.cells #[.func (.func 47) #[.pointer (some ⟨w.heap.size + 1 + 1 + 1, 0, none⟩)] #[], .func (.func 48) #[.pointer (some ⟨w.heap.size + 1 + 1 + 1, 0, none⟩)] #[], .func (.func 49) #[.pointer (some ⟨w.heap.size + 1 + 1 + 1, 0, none⟩)] #[]] 108)) = X at *
        obtain ⟨j0, j1, j2, j3, j4⟩ := cells5 hB3
        obtain ⟨f0, f1, f2⟩ := three_cells hB4
        obtain ⟨e0, e1, e2, e3⟩ := two_cells hB1
        refine (HT.out _ _ j0).mono ?_
        rintro e X ⟨rfl, rfl⟩
        go_wp2_with fail
        rw [rounds_succ]
        go_wp2_with fail
        refine (HP.out _ _ j1).mono ?_
        rintro e X ⟨rfl, rfl⟩
        go_wp2_with fail
        rw [rounds_succ]
        go_wp2_with fail
        refine (HQ.out _ _ j2 j3).mono ?_
        rintro e X ⟨rfl, rfl⟩
        clear hmap5 hmm
        obtain ⟨q4, q5, hR2⟩ := two_after hB1 (.int .i64 (-1)) (.int .i64 10)
        obtain ⟨r0, r1, -, -⟩ := two_cells hR2
        go_wp2
        have hresl : Tryz.f20.results = #[.cell 2 68] := by kernel_rfl
        refine bodyPost_ret (v := faultV (-1, 10)) ?_ rfl ⟨rfl, ?_⟩
        · simp only [results, hresl]
          go_simp
        · exact (hb5.setCell (by simp) _).setCell (by simp) _
    · have hP : ∀ w J, w.cell? ⟨J, 1, none⟩ = some (.slice A n cc) → Calls Tryz.prog 48 #[.pointer (some ⟨J, 0, none⟩)] w fun e w' => e = .returned (.int .i64 12) ∧ w' = w := fun w J h0 => by
        have := jtopics_any J n cc A w h0
        rwa [if_neg hl] at this
      have HP := hide hP
      have hres : checkS a ts b c = (-1, 12) := by rw [checkS, if_neg (by simpa using ha), hn, if_pos hl]
      rw [hres]
      clear hT hP hres ha hl hopen hr hn hts
      go_enter Tryz.func20, Tryz.ntmps20
      go_wp2_with fail
      refine wp_loop_rounds 4 ?_
      rw [rounds_succ]
      go_wp2_with fail
      obtain ⟨hB0, hB1, hB2, hB3, hB4, hS5, hb5⟩ := five_blocks w (.cells #[.int .i64 a, .slice A n cc, .int .i64 b, .int .i64 c] 24) (.cells #[.int .i64 0, .int .i64 0] 68) (.map #[] 0) (.cells #[.int .i64 a, .slice A n cc, .int .i64 b, .int .i64 c, .map (some (w.heap.size + 1 + 1))] 107) (.cells #[.func (.func 47) #[.pointer (some ⟨w.heap.size + 1 + 1 + 1, 0, none⟩)] #[], .func (.func 48) #[.pointer (some ⟨w.heap.size + 1 + 1 + 1, 0, none⟩)] #[], .func (.func 49) #[.pointer (some ⟨w.heap.size + 1 + 1 + 1, 0, none⟩)] #[]] 108)
      have hmap5 := (World.ownsMap_made (H := Unit) ((w.alloc (.cells #[.int .i64 a, .slice A n cc, .int .i64 b, .int .i64 c] 24)).alloc (.cells #[.int .i64 0, .int .i64 0] 68)) Tryz.prog 9 (plainElem Tryz.prog 3)).alloc (.cells #[.int .i64 a, .slice A n cc, .int .i64 b, .int .i64 c, .map (some (w.heap.size + 1 + 1))] 107) |>.alloc (.cells #[.func (.func 47) #[.pointer (some ⟨w.heap.size + 1 + 1 + 1, 0, none⟩)] #[], .func (.func 48) #[.pointer (some ⟨w.heap.size + 1 + 1 + 1, 0, none⟩)] #[], .func (.func 49) #[.pointer (some ⟨w.heap.size + 1 + 1 + 1, 0, none⟩)] #[]] 108)
      rw [gc_alloc_size, gc_alloc_size] at hmap5
      generalize (((((w.alloc (.cells #[.int .i64 a, .slice A n cc, .int .i64 b, .int .i64 c] 24)).alloc (.cells #[.int .i64 0, .int .i64 0] 68)).alloc (.map #[] 0)).alloc (.cells #[.int .i64 a, .slice A n cc, .int .i64 b, .int .i64 c, .map (some (w.heap.size + 1 + 1))] 107)).alloc (.cells #[.func (.func 47) #[.pointer (some ⟨w.heap.size + 1 + 1 + 1, 0, none⟩)] #[], .func (.func 48) #[.pointer (some ⟨w.heap.size + 1 + 1 + 1, 0, none⟩)] #[], .func (.func 49) #[.pointer (some ⟨w.heap.size + 1 + 1 + 1, 0, none⟩)] #[]] 108)) = X at *
      obtain ⟨j0, j1, j2, j3, j4⟩ := cells5 hB3
      obtain ⟨f0, f1, f2⟩ := three_cells hB4
      obtain ⟨e0, e1, e2, e3⟩ := two_cells hB1
      refine (HT.out _ _ j0).mono ?_
      rintro e X ⟨rfl, rfl⟩
      go_wp2_with fail
      rw [rounds_succ]
      go_wp2_with fail
      refine (HP.out _ _ j1).mono ?_
      rintro e X ⟨rfl, rfl⟩
      clear hmap5 hmm
      obtain ⟨q4, q5, hR2⟩ := two_after hB1 (.int .i64 (-1)) (.int .i64 12)
      obtain ⟨r0, r1, -, -⟩ := two_cells hR2
      go_wp2
      have hresl : Tryz.f20.results = #[.cell 2 68] := by kernel_rfl
      refine bodyPost_ret (v := faultV (-1, 12)) ?_ rfl ⟨rfl, ?_⟩
      · simp only [results, hresl]
        go_simp
      · exact (hb5.setCell (by simp) _).setCell (by simp) _
  · have hres : checkS a ts b c = (-1, 10) := by rw [checkS, if_pos ha]
    rw [hres]
    have hT : ∀ w J, w.cell? ⟨J, 0, none⟩ = some (.int .i64 a) → Calls Tryz.prog 47 #[.pointer (some ⟨J, 0, none⟩)] w fun e w' => e = .returned (.int .i64 10) ∧ w' = w := fun w J h0 => by
      have := jtasks_any J a w h0
      rwa [if_neg ha] at this
    have HT := hide hT
    clear hT hres ha hr hopen
    go_enter Tryz.func20, Tryz.ntmps20
    go_wp2_with fail
    refine wp_loop_rounds 4 ?_
    rw [rounds_succ]
    go_wp2_with fail
    obtain ⟨hB0, hB1, hB2, hB3, hB4, hS5, hb5⟩ := five_blocks w (.cells #[.int .i64 a, .slice A n cc, .int .i64 b, .int .i64 c] 24) (.cells #[.int .i64 0, .int .i64 0] 68) (.map #[] 0) (.cells #[.int .i64 a, .slice A n cc, .int .i64 b, .int .i64 c, .map (some (w.heap.size + 1 + 1))] 107) (.cells #[.func (.func 47) #[.pointer (some ⟨w.heap.size + 1 + 1 + 1, 0, none⟩)] #[], .func (.func 48) #[.pointer (some ⟨w.heap.size + 1 + 1 + 1, 0, none⟩)] #[], .func (.func 49) #[.pointer (some ⟨w.heap.size + 1 + 1 + 1, 0, none⟩)] #[]] 108)
    have hmap5 := (World.ownsMap_made (H := Unit) ((w.alloc (.cells #[.int .i64 a, .slice A n cc, .int .i64 b, .int .i64 c] 24)).alloc (.cells #[.int .i64 0, .int .i64 0] 68)) Tryz.prog 9 (plainElem Tryz.prog 3)).alloc (.cells #[.int .i64 a, .slice A n cc, .int .i64 b, .int .i64 c, .map (some (w.heap.size + 1 + 1))] 107) |>.alloc (.cells #[.func (.func 47) #[.pointer (some ⟨w.heap.size + 1 + 1 + 1, 0, none⟩)] #[], .func (.func 48) #[.pointer (some ⟨w.heap.size + 1 + 1 + 1, 0, none⟩)] #[], .func (.func 49) #[.pointer (some ⟨w.heap.size + 1 + 1 + 1, 0, none⟩)] #[]] 108)
    rw [gc_alloc_size, gc_alloc_size] at hmap5
    generalize (((((w.alloc (.cells #[.int .i64 a, .slice A n cc, .int .i64 b, .int .i64 c] 24)).alloc (.cells #[.int .i64 0, .int .i64 0] 68)).alloc (.map #[] 0)).alloc (.cells #[.int .i64 a, .slice A n cc, .int .i64 b, .int .i64 c, .map (some (w.heap.size + 1 + 1))] 107)).alloc (.cells #[.func (.func 47) #[.pointer (some ⟨w.heap.size + 1 + 1 + 1, 0, none⟩)] #[], .func (.func 48) #[.pointer (some ⟨w.heap.size + 1 + 1 + 1, 0, none⟩)] #[], .func (.func 49) #[.pointer (some ⟨w.heap.size + 1 + 1 + 1, 0, none⟩)] #[]] 108)) = X at *
    obtain ⟨j0, j1, j2, j3, j4⟩ := cells5 hB3
    obtain ⟨f0, f1, f2⟩ := three_cells hB4
    obtain ⟨e0, e1, e2, e3⟩ := two_cells hB1
    refine (HT.out _ _ j0).mono ?_
    rintro e X ⟨rfl, rfl⟩
    clear hmap5 hmm
    obtain ⟨q4, q5, hR2⟩ := two_after hB1 (.int .i64 (-1)) (.int .i64 10)
    obtain ⟨r0, r1, -, -⟩ := two_cells hR2
    go_wp2
    have hresl : Tryz.f20.results = #[.cell 2 68] := by kernel_rfl
    refine bodyPost_ret (v := faultV (-1, 10)) ?_ rfl ⟨rfl, ?_⟩
    · simp only [results, hresl]
      go_simp
    · exact (hb5.setCell (by simp) _).setCell (by simp) _

end Go.Proofs.YtclgmikdjcjjdaaGreatDoor

namespace Go.Proofs.YtclgmikdjcjjdaaGreatDoor
open Go.ChangeShapes Go.WideShapes Go.ChangeAt Go.RowKit Go.Deep

/-- Functions on numbers below n that exist one by one exist at once. -/
theorem choose_below {α : Type} (n : Nat) (p : Nat → α → Prop) (h : ∀ i, i < n → ∃ x, p i x) : ∃ l : List α, l.length = n ∧ ∀ i (hi : i < l.length), p i l[i] := by
  induction n with
  | zero => exact ⟨[], rfl, fun i hi => by simp at hi⟩
  | succ n ih =>
    obtain ⟨l, hl, hp⟩ := ih fun i hi => h i (by omega)
    obtain ⟨x, hx⟩ := h n (by omega)
    refine ⟨l ++ [x], by simp [hl], fun i hi => ?_⟩
    by_cases hin : i < l.length
    · rw [List.getElem_append_left hin]; exact hp i hin
    · have : i = l.length := by simp at hi; omega
      subst this
      rw [List.getElem_append_right (Nat.le_refl _)]
      simp only [Nat.sub_self, List.getElem_cons_zero]
      rw [hl]; exact hx

theorem add_plain (b o j : Nat) : (Addr.add ⟨b, o, none⟩ j) = ⟨b, o + j, none⟩ := by
  unfold Addr.add
  by_cases h : j = 0
  · simp [h]
  · simp [h]

set_option maxRecDepth 100000 in
/-- A row of topics. -/
theorem open_topics {H : Type} {enc : TypeId × Value → H} {w : World} {held : Bool} {fuel : Nat} {v : Value} {x : DataW H × List MemPlace}
    (h : DataW.trod enc Tryz.prog w 0 (fun _ => true) held fuel 22 [v] = some x) : ∃ ts : List Tp, Rd w v 3 ts.length (flatT ts) := by
  have c9 : Tryz.prog.cellsOf 9 = 1 := by kernel_rfl
  have c3 : Tryz.prog.cellsOf 3 = 1 := by kernel_rfl
  have hce : Tryz.prog.cellsOf 63 = 3 := by kernel_rfl
  rcases open_slice Tryz.underlying22 h with ⟨hcs, -⟩ | ⟨a, len, cap, m, n, D, Pl, hcs, -, hl, hm, hmm, -, hi⟩
  · simp only [List.cons.injEq, and_true] at hcs
    subst hcs
    exact ⟨[], Rd.nil w 3⟩
  · simp only [List.cons.injEq, and_true] at hcs
    subst hcs
    have hlm : len ≤ m := by rw [hmm]; split <;> omega
    obtain ⟨b, o, spot⟩ := a
    have hnum : ∀ i, i < len → ∃ t : Tp, w.cell? (Addr.add ⟨b, o, spot⟩ (i * 3)) = some (.string t.1) ∧ w.cell? (Addr.add ⟨b, o, spot⟩ (i * 3 + 1)) = some (.int .i64 t.2.1) ∧ w.cell? (Addr.add ⟨b, o, spot⟩ (i * 3 + 2)) = some (.int .i64 t.2.2) := by
      intro i hil
      obtain ⟨cs', h1, h2⟩ := hi i (by omega)
      rw [hce] at h1
      obtain ⟨_, hlen, hcell⟩ := World.cells?_some h1
      obtain ⟨xs, k, hk, hxy, _, hxl, hf⟩ := DataW.trod_struct Tryz.underlying63 h2
      match xs, hxl, cs', hlen with
      | [y0, y1, y2], _, [v0, v1, v2], _ =>
        have g0 := hf 0 _ rfl
        have g1 := hf 1 _ rfl
        have g2 := hf 2 _ rfl
        simp [c9, c3] at g0 g1 g2
        have e0 := hcell 0 (by omega)
        have e1 := hcell 1 (by omega)
        have e2 := hcell 2 (by omega)
        rw [add_add] at e0 e1 e2
        obtain ⟨s, hs, -, -⟩ := DataW.trod_string Tryz.underlying9 g0
        obtain ⟨z1, hz1, -, -⟩ := DataW.trod_int Tryz.underlying3 g1
        obtain ⟨z2, hz2, -, -⟩ := DataW.trod_int Tryz.underlying3 g2
        simp only [List.cons.injEq, and_true] at hs hz1 hz2
        subst hs
        subst hz1
        subst hz2
        exact ⟨(s, z1, z2), by simpa using e0, by simpa using e1, by simpa using e2⟩
    obtain ⟨ts, hts, hat⟩ := choose_below len _ hnum
    refine ⟨ts, flatT_len ts, some ⟨b, o, spot⟩, cap, by rw [hts], by omega, hm, fun hpos => ?_⟩
    rw [hts] at hpos
    have h0 := (hat 0 (by omega)).1
    have hspot : spot = none := by simpa [Addr.add] using World.cell?_spot h0
    subst hspot
    refine ⟨b, o, rfl, ?_, fun j u hj => ?_⟩
    · have hc := h0
      simp only [World.cell?, Addr.add] at hc
      by_cases hbl : b < w.heap.size
      · exact hbl
      · have hn : w.heap[b]? = none := Array.getElem?_eq_none (Nat.le_of_not_lt hbl)
        simp [hn] at hc
    · have hj2 : j / 3 < ts.length := by
        have : j < (flatT ts).length := (List.getElem?_eq_some_iff.1 hj).1
        rw [flatT_len] at this
        omega
      have h1 := hat (j / 3) hj2
      have h2 := flatT_at ts (j / 3) hj2
      have hm3 : j % 3 = 0 ∨ j % 3 = 1 ∨ j % 3 = 2 := by omega
      rcases hm3 with hm2 | hm2 | hm2
      · have e : j / 3 * 3 = j := by omega
        rw [e] at h1 h2
        rw [h2.1] at hj
        cases hj
        rw [← add_plain]
        exact h1.1
      · have e : j / 3 * 3 + 1 = j := by omega
        rw [e] at h1 h2
        rw [h2.2.1] at hj
        cases hj
        rw [← add_plain]
        exact h1.2.1
      · have e : j / 3 * 3 + 2 = j := by omega
        rw [e] at h1 h2
        rw [h2.2.2] at hj
        cases hj
        rw [← add_plain]
        exact h1.2.2

set_option maxRecDepth 100000 in
/-- An argument that is a config. -/
theorem open_config {H : Type} {enc : TypeId × Value → H} {w : World} {base : Nat} {held : Bool} {v : Value} {d : DataW H} {p : List MemPlace}
    (hok : Value.okWide Tryz.prog w .any base 24 v) (h : DataW.Trod enc Tryz.prog w 0 (fun _ => true) held 24 v d p) :
    ∃ (a b c : Int) (u : Value) (ts : List Tp), v = cfgV a u b c ∧ Rd w u 3 ts.length (flatT ts) := by
  obtain ⟨v0, v1, v2, v3, y0, y1, y2, y3, m, rfl, -, -, h0, h1, h2, h3⟩ := Joins.open_agg4 Tryz.underlying24 (by kernel_rfl) (by kernel_rfl) hok h
  obtain ⟨a, ha, -, -⟩ := DataW.trod_int Tryz.underlying3 h0
  obtain ⟨b, hb, -, -⟩ := DataW.trod_int Tryz.underlying3 h2
  obtain ⟨c, hc, -, -⟩ := DataW.trod_int Tryz.underlying3 h3
  simp only [List.cons.injEq, and_true] at ha hb hc
  subst ha
  subst hb
  subst hc
  obtain ⟨ts, hr⟩ := open_topics h1
  exact ⟨a, b, c, v1, ts, rfl, hr⟩

end Go.Proofs.YtclgmikdjcjjdaaGreatDoor
