/-
  The walks of (*tasks.Task).Next at tasks without orders, state by state. Conditions: a task's block as it stands. (Printed by gen_next.py.)
-/
import Derived.Test.YtpilfhjlfbjloaaGreatDoorTNextLib
namespace Go.Proofs.YtpilfhjlfbjloaaGreatDoor
open Go.RowKit

set_option maxRecDepth 100000 in
set_option maxHeartbeats 3200000 in
theorem fs_hover (T F B0 : Nat) (mode : Int) (source : Int) (hold : Bool) (flags : Int) (epoch : Int) (s' : Int) (h' : Bool) (e' : Int) (w : World)
    (hT : w.heap[T]? = some (taskB 2 0 (.slice (some ⟨F, 0, none⟩) 2 2) 1 nilS (.func (.func 55) #[] #[.pointer (some ⟨B0, 0, none⟩)]) mode source hold flags epoch))
    (hF : w.heap[F]? = some (.cells #[stepV 24 T, stepV 27 T] 93)) (hTF : T ≠ F) (hB : w.heap[B0]? = some (.cells #[.pointer (some ⟨T, 0, none⟩)] 31)) :
    Calls Tryz.prog 10 #[.pointer (some ⟨T, 0, none⟩), ansV 0 0 0 0 0 3 s' h' 0 e' nilS nilS] w fun e w' => e = .returned (.tuple #[.agg #[.int .i64 7, .int .i64 0, .int .i64 0, .int .i64 0, .int .i64 0, .int .i64 3, .int .i64 7, .int .i64 0, .bool false, .slice none 0 0, .slice none 0 0], .bool true]) ∧ w'.heap[T]? = some (taskB 2 0 (.slice (some ⟨F, 0, none⟩) 2 2) 2 nilS .nilFunc 3 s' h' 0 e') ∧ w.grownBy w' (some T) := by
  have hfn1 := fn_nil
  have hfn2 := fn_some
  have hTl := block_lt hT
  have hFl := block_lt hF
  have hTY := alloc_stays (w.alloc (ansO 3 s' h' 0 e')) callZ T _ (alloc_stays w (ansO 3 s' h' 0 e') T _ hT)
  have hFY := alloc_stays (w.alloc (ansO 3 s' h' 0 e')) callZ F _ (alloc_stays w (ansO 3 s' h' 0 e') F _ hF)
  have hBY := alloc_stays (w.alloc (ansO 3 s' h' 0 e')) callZ B0 _ (alloc_stays w (ansO 3 s' h' 0 e') B0 _ hB)
  have hRY := heap_alloc_new (w.alloc (ansO 3 s' h' 0 e')) callZ
  rw [alloc_size] at hRY
  have hGY := grown_below (below_new2 w (ansO 3 s' h' 0 e') callZ) T
  obtain ⟨t0, t1, t2, t3, t4, t5, t6, t7, t8, t9, t10, t11, t12, t13, t14, t15, tf⟩ := cells16 hTY
  go_enter Tryz.func10, Tryz.ntmps10
  go_wp2
  go_step3
  go_wp2_with fail
  have hBl := block_lt hB
  have hAY := alloc_stays (w.alloc (ansO 3 s' h' 0 e')) callZ _ _ (heap_alloc_new w (ansO 3 s' h' 0 e'))
  generalize (w.alloc (ansO 3 s' h' 0 e')).alloc callZ = Y at *
  obtain ⟨a0, a1, a2, a3, a4, a5, a6, a7, a8, a9, a10, a11, af⟩ := cells12 hAY
  have hTYl := block_lt hTY
  have hAYl := block_lt hAY
  refine wp_region_ext_tail 5 (by kernel_rfl) (by kernel_rfl) (fun _ _ d _ _ h => by cases d <;> exact h) ?_
  simp only [List.take_succ_cons, List.take_zero, List.drop_succ_cons, List.drop_zero]
  repeat (first
    | go_big_quiet_skip
    | (go_big_quiet_want
       first
         | (apply quiet_val
            · intro wq hq
              have hcq := hq.cells
              have hzq := hq.lift
              go_simp
              try go_bits
              first | done | with_reducible rfl
            (try simp only [Act.put, List.setIfInBounds_toArray, List.set_cons_zero, List.set_cons_succ])
            go_big_quiet_on)))
  refine wpQuiet_nil ?_
  intro W hW
  clear a0 a1 a2 a3 a4 a5 a6 a7 a8 a9 a10 a11 af hAY
  have hTW := (hW.below.block T (block_lt hTY)).trans hTY
  have hFW := (hW.below.block F (block_lt hFY)).trans hFY
  have hRW := (hW.below.block (w.heap.size + 1) (block_lt hRY)).trans hRY
  have hBW := (hW.below.block B0 (block_lt hBY)).trans hBY
  have hGW0 : w.grownBy W (some T) := hGY.trans (grown_below hW.below T)
  clear t0 t1 t2 t3 t4 t5 t6 t7 t8 t9 t10 t11 t12 t13 t14 t15 tf
  clear hTY hFY hRY hBY hGY hW
  obtain ⟨t0, t1, t2, t3, t4, t5, t6, t7, t8, t9, t10, t11, t12, t13, t14, t15, tf⟩ := cells16 hTW
  have hB0c := cell_of hBW 0
  have hTWl := block_lt hTW
  have hBWl := block_lt hBW
  have hsn := fun a (w : World) val h hf => store_nilf a w val h hf
  go_wp2_with go_in
  go_end0
  go_wp2_with fail
  clear hB0c hsn
  clear t0 t1 t2 t3 t4 t5 t6 t7 t8 t9 t10 t11 t12 t13 t14 t15 tf
  have hTY := alloc_stays _ (ansO 3 s' h' 0 e') _ _ (hear_set hTW 3 s' h' 0 e')
  have hFY := alloc_stays _ (ansO 3 s' h' 0 e') _ _ ((hear_other (Ne.symm hTF) 3 s' h' 0 e').trans hFW)
  have hRY := alloc_stays _ (ansO 3 s' h' 0 e') _ _ ((hear_other (show w.heap.size + 1 ≠ T by omega) 3 s' h' 0 e').trans hRW)
  have hGY := (hear_grown hGW0 3 s' h' 0 e').trans (grown_below (below_new _ (ansO 3 s' h' 0 e')) T)
  generalize ((((((W.setCell ⟨T, 11, none⟩ (.int .i64 3)).setCell ⟨T, 12, none⟩ (.int .i64 s')).setCell ⟨T, 13, none⟩ (.bool h')).setCell ⟨T, 14, none⟩ (.int .i64 0)).setCell ⟨T, 15, none⟩ (.int .u64 e')).setCell ⟨T, 6, none⟩ .nilFunc).alloc (ansO 3 s' h' 0 e') = Y at *
  clear hTW hFW hRW hBW hGW0 hTWl hBWl
  go_step3
  obtain ⟨t0, t1, t2, t3, t4, t5, t6, t7, t8, t9, t10, t11, t12, t13, t14, t15, tf⟩ := cells16 hTY
  go_wp2_with fail
  go_quiet (fail)
  have hTY1 : (Y.drewN nq).heap[T]? = _ := hTY
  have hFY1 : (Y.drewN nq).heap[F]? = _ := hFY
  have hRY1 : (Y.drewN nq).heap[w.heap.size + 1]? = _ := hRY
  have hGY1 : w.grownBy (Y.drewN nq) (some T) := grown_drewN hGY nq
  generalize Y.drewN nq = Y1 at *
  clear t0 t1 t2 t3 t4 t5 t6 t7 t8 t9 t10 t11 t12 t13 t14 t15 tf
  clear hTY hFY hRY hGY
  obtain ⟨t0, t1, t2, t3, t4, t5, t6, t7, t8, t9, t10, t11, t12, t13, t14, t15, tf⟩ := cells16 hTY1
  go_wp2_with fail
  go_quiet (fail)
  have hTY11 : (Y1.drewN nq).heap[T]? = _ := hTY1
  have hFY11 : (Y1.drewN nq).heap[F]? = _ := hFY1
  have hRY11 : (Y1.drewN nq).heap[w.heap.size + 1]? = _ := hRY1
  have hGY11 : w.grownBy (Y1.drewN nq) (some T) := grown_drewN hGY1 nq
  generalize Y1.drewN nq = Y11 at *
  clear t0 t1 t2 t3 t4 t5 t6 t7 t8 t9 t10 t11 t12 t13 t14 t15 tf
  clear hTY1 hFY1 hRY1 hGY1
  obtain ⟨t0, t1, t2, t3, t4, t5, t6, t7, t8, t9, t10, t11, t12, t13, t14, t15, tf⟩ := cells16 hTY11
  go_wp2_with fail
  clear t0 t1 t2 t3 t4 t5 t6 t7 t8 t9 t10 t11 t12 t13 t14 t15 tf
  have hS0 : SF T F 1 (.slice (some ⟨F, 0, none⟩) 2 2) (.int .i64 1) (stepV 27 T) Y11 := ⟨cell_of hTY11 3, cell_of hTY11 4, cell_of hFY11 1⟩
  have hTZl := block_lt hTY11
  have hFZl := block_lt hFY11
  have hS0d : SF T F 1 (.slice (some ⟨F, 0, none⟩) 2 2) (.int .i64 1) (stepV 27 T) Y11.drew := hS0
  have hS0a : SF T F 1 (.slice (some ⟨F, 0, none⟩) 2 2) (.int .i64 1) (stepV 27 T) (Y11.alloc callZ).drew := SF_alloc hS0 _
  have hTd : Y11.drew.heap[T]? = some (taskB 2 0 (.slice (some ⟨F, 0, none⟩) 2 2) 1 nilS .nilFunc 3 s' h' 0 e') := hTY11
  have hTa : (Y11.alloc callZ).drew.heap[T]? = some (taskB 2 0 (.slice (some ⟨F, 0, none⟩) 2 2) 1 nilS .nilFunc 3 s' h' 0 e') := alloc_stays Y11 callZ _ _ hTY11
  have hTd0 : Y11.drew.cell? ⟨T, 0, none⟩ = some nilS := cell_of hTd 0
  have hTa0 : (Y11.alloc callZ).drew.cell? ⟨T, 0, none⟩ = some nilS := cell_of hTa 0
  have hFd : Y11.drew.cell? ⟨F, 1, none⟩ = some (stepV 27 T) := hS0.2.2
  have hFa : (Y11.alloc callZ).drew.cell? ⟨F, 1, none⟩ = some (stepV 27 T) := (SF_alloc hS0 callZ).2.2
  have h7a : (Y11.alloc callZ).drew.heap[Y11.heap.size]? = some callZ := heap_alloc_new Y11 callZ
  have hZT : Y11.heap.size ≠ T := by omega
  have hZF : Y11.heap.size ≠ F := by omega
  go_region_held3 (fun w' => w'.cell? ⟨T, 3, none⟩ = some (.slice (some ⟨F, 0, none⟩) 2 2) ∧ w'.cell? ⟨T, 4, none⟩ = some (.int .i64 1) ∧ w'.cell? ⟨F, 1, none⟩ = some (stepV 27 T))
    (first | with_reducible assumption | with_reducible exact hS0 | with_reducible exact hS0d | with_reducible exact hS1 | with_reducible exact SF_alloc hS1 _ | with_reducible exact hS0a | with_reducible exact SF_set (SF_set (SF_set (SF_set (SF_set (SF_set (SF_set (SF_set (SF_set (SF_set (SF_set hS1 _ _ _ hZT hZF) _ _ _ hZT hZF) _ _ _ hZT hZF) _ _ _ hZT hZF) _ _ _ hZT hZF) _ _ _ hZT hZF) _ _ _ hZT hZF) _ _ _ hZT hZF) _ _ _ hZT hZF) _ _ _ hZT hZF) _ _ _ hZT hZF)
    (first | (go_at_call 27; refine (guard_hover T 2 0 (.slice (some ⟨F, 0, none⟩) 2 2) 1 nilS .nilFunc s' h' e' _ (by first | with_reducible exact hTd | with_reducible exact hTa)).mono ?_; rintro e w1 ⟨rfl, hb1⟩; have hT1 : w1.heap[T]? = some (taskB 2 0 (.slice (some ⟨F, 0, none⟩) 2 2) 1 nilS .nilFunc 3 s' h' 0 e') := (hb1.block T (by simp; omega)).trans (by first | with_reducible exact hTd | with_reducible exact hTa); have hg1 := grown_below hb1 T; have hS1 : SF T F 1 (.slice (some ⟨F, 0, none⟩) 2 2) (.int .i64 1) (stepV 27 T) w1 := ⟨cell_of hT1 3, cell_of hT1 4, (World.cell?_of_block (hg1.block F (by simp; omega) (fun e => hTF (Option.some.inj e).symm))).trans (by first | with_reducible exact hFd | with_reducible exact hFa)⟩; try (have h7 := (hg1.block Y11.heap.size (by simp) (fun e => by have := Option.some.inj e; omega)).trans h7a; obtain ⟨d0, d1, d2, d3, d4, d5, d6, d7, d8, d9, d10, df⟩ := cells11 h7)))
  all_goals clear hS0 hS0d hS0a hTd hTa hFd hFa hS1 hTd0 hTa0
  ·
    have hsz : w.heap.size + 1 < Y11.heap.size := block_lt hRY11
    have hw1s := hg1.size
    have hR1 := (hg1.block (w.heap.size + 1) (by simp; omega) (fun e => by have := Option.some.inj e; omega)).trans hRY11
    have hF1 := (hg1.block F (by simp; omega) (fun e => hTF (Option.some.inj e).symm)).trans hFY11
    rw [show Y11.drew.heap.size = Y11.heap.size from rfl] at hw1s
    have hTX := alloc_stays w1 (.cells #[.int .i64 7, .int .i64 0, .int .i64 0, .int .i64 0, .int .i64 0, .int .i64 3, .int .i64 7, .int .i64 0, .bool false, .slice none 0 0, .slice none 0 0] 48) _ _ hT1
    have hRX := alloc_stays w1 (.cells #[.int .i64 7, .int .i64 0, .int .i64 0, .int .i64 0, .int .i64 0, .int .i64 3, .int .i64 7, .int .i64 0, .bool false, .slice none 0 0, .slice none 0 0] 48) _ _ hR1
    have hFX := alloc_stays w1 (.cells #[.int .i64 7, .int .i64 0, .int .i64 0, .int .i64 0, .int .i64 0, .int .i64 3, .int .i64 7, .int .i64 0, .bool false, .slice none 0 0, .slice none 0 0] 48) _ _ hF1
    have h7X := heap_alloc_new w1 (.cells #[.int .i64 7, .int .i64 0, .int .i64 0, .int .i64 0, .int .i64 0, .int .i64 3, .int .i64 7, .int .i64 0, .bool false, .slice none 0 0, .slice none 0 0] 48)
    have hGX : w.grownBy (w1.alloc (.cells #[.int .i64 7, .int .i64 0, .int .i64 0, .int .i64 0, .int .i64 0, .int .i64 3, .int .i64 7, .int .i64 0, .bool false, .slice none 0 0, .slice none 0 0] 48)) (some T) := (hGY11.trans (grown_drew hg1)).trans (grown_below (below_new w1 _) T)
    have hb7 : w.heap.size + 1 < w1.heap.size := by omega
    generalize w1.alloc (.cells #[.int .i64 7, .int .i64 0, .int .i64 0, .int .i64 0, .int .i64 0, .int .i64 3, .int .i64 7, .int .i64 0, .bool false, .slice none 0 0, .slice none 0 0] 48) = X at *
    generalize w1.heap.size = b7 at *
    obtain ⟨t0, t1, t2, t3, t4, t5, t6, t7, t8, t9, t10, t11, t12, t13, t14, t15, tf⟩ := cells16 hTX
    obtain ⟨r0, r1, r2, r3, r4, r5, r6, r7, r8, r9, r10, rf⟩ := cells11 hRX
    obtain ⟨k0, k1, k2, k3, k4, k5, k6, k7, k8, k9, k10, kf⟩ := cells11 h7X
    have hn106 : ¬ w.heap.size + 1 = T := by omega
    have hn107 : ¬ T = w.heap.size + 1 := by omega
    have hn108 : ¬ b7 = T := by omega
    have hn109 : ¬ T = b7 := by omega
    have hn110 : ¬ b7 = w.heap.size + 1 := by omega
    have hn111 : ¬ w.heap.size + 1 = b7 := by omega
    have hs := heap_setCell_same X T 4 _ 88 (.int .i64 2) hTX
    have hTW : (X.setCell ⟨T, 4, none⟩ (.int .i64 2)).heap[T]? = some (taskB 2 0 (.slice (some ⟨F, 0, none⟩) 2 2) 2 nilS .nilFunc 3 s' h' 0 e') := by simpa using hs
    have hGW := grown_cell hGX T 4 (.int .i64 2) (.inl rfl)
    go_wp2
    try simp only [Exit.jump]
    try rw [Exit.noGoto_ret]
    have hresl : Tryz.f10.results = #[.cell 4 48, .tmp 5] := by kernel_rfl
    refine bodyPost_ret (v := .tuple #[.agg #[.int .i64 7, .int .i64 0, .int .i64 0, .int .i64 0, .int .i64 0, .int .i64 3, .int .i64 7, .int .i64 0, .bool false, .slice none 0 0, .slice none 0 0], .bool true]) ?_ rfl ⟨rfl, (set11_other (show T ≠ w.heap.size + 1 by omega) _ _ _ _ _ _ _ _ _ _ _).trans hTW, grown_set11 hGW (Nat.le_succ _) _ _ _ _ _ _ _ _ _ _ _⟩
    · simp only [results, hresl]
      go_simp
  ·
    have hsz : w.heap.size + 1 < Y11.heap.size := block_lt hRY11
    have hw1s := hg1.size
    have hR1 := (hg1.block (w.heap.size + 1) (by simp; omega) (fun e => by have := Option.some.inj e; omega)).trans (alloc_stays Y11 callZ _ _ hRY11)
    have hF1 := (hg1.block F (by simp; omega) (fun e => hTF (Option.some.inj e).symm)).trans (alloc_stays Y11 callZ _ _ hFY11)
    have hw1s' : Y11.heap.size + 1 ≤ w1.heap.size := by have h : (Y11.alloc callZ).drew.heap.size = Y11.heap.size + 1 := (by simp); rw [h] at hw1s; exact hw1s
    have hTX := (set11_other (x := w1) (g := Y11.heap.size) (Ne.symm hZT) (.int .i64 7) (.int .i64 0) (.int .i64 0) (.int .i64 0) (.int .i64 0) (.int .i64 3) (.int .i64 7) (.int .i64 0) (.bool false) (.slice none 0 0) (.slice none 0 0)).trans hT1
    have hFX := (set11_other (x := w1) (g := Y11.heap.size) (Ne.symm hZF) (.int .i64 7) (.int .i64 0) (.int .i64 0) (.int .i64 0) (.int .i64 0) (.int .i64 3) (.int .i64 7) (.int .i64 0) (.bool false) (.slice none 0 0) (.slice none 0 0)).trans hF1
    have hRX := (set11_other (x := w1) (g := Y11.heap.size) (show w.heap.size + 1 ≠ Y11.heap.size by omega) (.int .i64 7) (.int .i64 0) (.int .i64 0) (.int .i64 0) (.int .i64 0) (.int .i64 3) (.int .i64 7) (.int .i64 0) (.bool false) (.slice none 0 0) (.slice none 0 0)).trans hR1
    have h7X := set11 h7 (.int .i64 7) (.int .i64 0) (.int .i64 0) (.int .i64 0) (.int .i64 0) (.int .i64 3) (.int .i64 7) (.int .i64 0) (.bool false) (.slice none 0 0) (.slice none 0 0)
    have hGX : w.grownBy (((((((((((w1.setCell ⟨Y11.heap.size, 0, none⟩ (.int .i64 7)).setCell ⟨Y11.heap.size, 1, none⟩ (.int .i64 0)).setCell ⟨Y11.heap.size, 2, none⟩ (.int .i64 0)).setCell ⟨Y11.heap.size, 3, none⟩ (.int .i64 0)).setCell ⟨Y11.heap.size, 4, none⟩ (.int .i64 0)).setCell ⟨Y11.heap.size, 5, none⟩ (.int .i64 3)).setCell ⟨Y11.heap.size, 6, none⟩ (.int .i64 7)).setCell ⟨Y11.heap.size, 7, none⟩ (.int .i64 0)).setCell ⟨Y11.heap.size, 8, none⟩ (.bool false)).setCell ⟨Y11.heap.size, 9, none⟩ (.slice none 0 0)).setCell ⟨Y11.heap.size, 10, none⟩ (.slice none 0 0)) (some T) := grown_set11 ((hGY11.trans (grown_below (below_new Y11 callZ) T)).trans (grown_drew hg1)) (by omega) _ _ _ _ _ _ _ _ _ _ _
    generalize ((((((((((w1.setCell ⟨Y11.heap.size, 0, none⟩ (.int .i64 7)).setCell ⟨Y11.heap.size, 1, none⟩ (.int .i64 0)).setCell ⟨Y11.heap.size, 2, none⟩ (.int .i64 0)).setCell ⟨Y11.heap.size, 3, none⟩ (.int .i64 0)).setCell ⟨Y11.heap.size, 4, none⟩ (.int .i64 0)).setCell ⟨Y11.heap.size, 5, none⟩ (.int .i64 3)).setCell ⟨Y11.heap.size, 6, none⟩ (.int .i64 7)).setCell ⟨Y11.heap.size, 7, none⟩ (.int .i64 0)).setCell ⟨Y11.heap.size, 8, none⟩ (.bool false)).setCell ⟨Y11.heap.size, 9, none⟩ (.slice none 0 0)).setCell ⟨Y11.heap.size, 10, none⟩ (.slice none 0 0) = X at *
    have hb7 : w.heap.size + 1 < Y11.heap.size := hsz
    generalize Y11.heap.size = b7 at *
    obtain ⟨t0, t1, t2, t3, t4, t5, t6, t7, t8, t9, t10, t11, t12, t13, t14, t15, tf⟩ := cells16 hTX
    obtain ⟨r0, r1, r2, r3, r4, r5, r6, r7, r8, r9, r10, rf⟩ := cells11 hRX
    obtain ⟨k0, k1, k2, k3, k4, k5, k6, k7, k8, k9, k10, kf⟩ := cells11 h7X
    have hn139 : ¬ w.heap.size + 1 = T := by omega
    have hn140 : ¬ T = w.heap.size + 1 := by omega
    have hn141 : ¬ b7 = T := by omega
    have hn142 : ¬ T = b7 := by omega
    have hn143 : ¬ b7 = w.heap.size + 1 := by omega
    have hn144 : ¬ w.heap.size + 1 = b7 := by omega
    have hs := heap_setCell_same X T 4 _ 88 (.int .i64 2) hTX
    have hTW : (X.setCell ⟨T, 4, none⟩ (.int .i64 2)).heap[T]? = some (taskB 2 0 (.slice (some ⟨F, 0, none⟩) 2 2) 2 nilS .nilFunc 3 s' h' 0 e') := by simpa using hs
    have hGW := grown_cell hGX T 4 (.int .i64 2) (.inl rfl)
    go_wp2
    try simp only [Exit.jump]
    try rw [Exit.noGoto_ret]
    have hresl : Tryz.f10.results = #[.cell 4 48, .tmp 5] := by kernel_rfl
    refine bodyPost_ret (v := .tuple #[.agg #[.int .i64 7, .int .i64 0, .int .i64 0, .int .i64 0, .int .i64 0, .int .i64 3, .int .i64 7, .int .i64 0, .bool false, .slice none 0 0, .slice none 0 0], .bool true]) ?_ rfl ⟨rfl, (set11_other (show T ≠ w.heap.size + 1 by omega) _ _ _ _ _ _ _ _ _ _ _).trans hTW, grown_set11 hGW (Nat.le_succ _) _ _ _ _ _ _ _ _ _ _ _⟩
    · simp only [results, hresl]
      go_simp

set_option maxRecDepth 100000 in
set_option maxHeartbeats 3200000 in
theorem fs_safe (T F B0 : Nat) (mode : Int) (source : Int) (hold : Bool) (flags : Int) (epoch : Int) (s' : Int) (h' : Bool) (e' : Int) (w : World)
    (hT : w.heap[T]? = some (taskB 2 1 (.slice (some ⟨F, 0, none⟩) 2 2) 1 nilS (.func (.func 55) #[] #[.pointer (some ⟨B0, 0, none⟩)]) mode source hold flags epoch))
    (hF : w.heap[F]? = some (.cells #[stepV 24 T, stepV 27 T] 93)) (hTF : T ≠ F) (hB : w.heap[B0]? = some (.cells #[.pointer (some ⟨T, 0, none⟩)] 31)) :
    Calls Tryz.prog 10 #[.pointer (some ⟨T, 0, none⟩), ansV 0 0 0 0 0 7 s' h' 0 e' nilS nilS] w fun e w' => e = .returned (.tuple #[.agg #[.int .i64 7, .int .i64 0, .int .i64 0, .int .i64 0, .int .i64 0, .int .i64 3, .int .i64 6, .int .i64 0, .bool true, .slice none 0 0, .slice none 0 0], .bool true]) ∧ w'.heap[T]? = some (taskB 2 1 (.slice (some ⟨F, 0, none⟩) 2 2) 2 nilS .nilFunc 7 s' h' 0 e') ∧ w.grownBy w' (some T) := by
  have hfn1 := fn_nil
  have hfn2 := fn_some
  have hTl := block_lt hT
  have hFl := block_lt hF
  have hTY := alloc_stays (w.alloc (ansO 7 s' h' 0 e')) callZ T _ (alloc_stays w (ansO 7 s' h' 0 e') T _ hT)
  have hFY := alloc_stays (w.alloc (ansO 7 s' h' 0 e')) callZ F _ (alloc_stays w (ansO 7 s' h' 0 e') F _ hF)
  have hBY := alloc_stays (w.alloc (ansO 7 s' h' 0 e')) callZ B0 _ (alloc_stays w (ansO 7 s' h' 0 e') B0 _ hB)
  have hRY := heap_alloc_new (w.alloc (ansO 7 s' h' 0 e')) callZ
  rw [alloc_size] at hRY
  have hGY := grown_below (below_new2 w (ansO 7 s' h' 0 e') callZ) T
  obtain ⟨t0, t1, t2, t3, t4, t5, t6, t7, t8, t9, t10, t11, t12, t13, t14, t15, tf⟩ := cells16 hTY
  go_enter Tryz.func10, Tryz.ntmps10
  go_wp2
  go_step3
  go_wp2_with fail
  have hBl := block_lt hB
  have hAY := alloc_stays (w.alloc (ansO 7 s' h' 0 e')) callZ _ _ (heap_alloc_new w (ansO 7 s' h' 0 e'))
  generalize (w.alloc (ansO 7 s' h' 0 e')).alloc callZ = Y at *
  obtain ⟨a0, a1, a2, a3, a4, a5, a6, a7, a8, a9, a10, a11, af⟩ := cells12 hAY
  have hTYl := block_lt hTY
  have hAYl := block_lt hAY
  refine wp_region_ext_tail 5 (by kernel_rfl) (by kernel_rfl) (fun _ _ d _ _ h => by cases d <;> exact h) ?_
  simp only [List.take_succ_cons, List.take_zero, List.drop_succ_cons, List.drop_zero]
  repeat (first
    | go_big_quiet_skip
    | (go_big_quiet_want
       first
         | (apply quiet_val
            · intro wq hq
              have hcq := hq.cells
              have hzq := hq.lift
              go_simp
              try go_bits
              first | done | with_reducible rfl
            (try simp only [Act.put, List.setIfInBounds_toArray, List.set_cons_zero, List.set_cons_succ])
            go_big_quiet_on)))
  refine wpQuiet_nil ?_
  intro W hW
  clear a0 a1 a2 a3 a4 a5 a6 a7 a8 a9 a10 a11 af hAY
  have hTW := (hW.below.block T (block_lt hTY)).trans hTY
  have hFW := (hW.below.block F (block_lt hFY)).trans hFY
  have hRW := (hW.below.block (w.heap.size + 1) (block_lt hRY)).trans hRY
  have hBW := (hW.below.block B0 (block_lt hBY)).trans hBY
  have hGW0 : w.grownBy W (some T) := hGY.trans (grown_below hW.below T)
  clear t0 t1 t2 t3 t4 t5 t6 t7 t8 t9 t10 t11 t12 t13 t14 t15 tf
  clear hTY hFY hRY hBY hGY hW
  obtain ⟨t0, t1, t2, t3, t4, t5, t6, t7, t8, t9, t10, t11, t12, t13, t14, t15, tf⟩ := cells16 hTW
  have hB0c := cell_of hBW 0
  have hTWl := block_lt hTW
  have hBWl := block_lt hBW
  have hsn := fun a (w : World) val h hf => store_nilf a w val h hf
  go_wp2_with go_in
  go_end0
  go_wp2_with fail
  clear hB0c hsn
  clear t0 t1 t2 t3 t4 t5 t6 t7 t8 t9 t10 t11 t12 t13 t14 t15 tf
  have hTY := alloc_stays _ (ansO 7 s' h' 0 e') _ _ (hear_set hTW 7 s' h' 0 e')
  have hFY := alloc_stays _ (ansO 7 s' h' 0 e') _ _ ((hear_other (Ne.symm hTF) 7 s' h' 0 e').trans hFW)
  have hRY := alloc_stays _ (ansO 7 s' h' 0 e') _ _ ((hear_other (show w.heap.size + 1 ≠ T by omega) 7 s' h' 0 e').trans hRW)
  have hGY := (hear_grown hGW0 7 s' h' 0 e').trans (grown_below (below_new _ (ansO 7 s' h' 0 e')) T)
  generalize ((((((W.setCell ⟨T, 11, none⟩ (.int .i64 7)).setCell ⟨T, 12, none⟩ (.int .i64 s')).setCell ⟨T, 13, none⟩ (.bool h')).setCell ⟨T, 14, none⟩ (.int .i64 0)).setCell ⟨T, 15, none⟩ (.int .u64 e')).setCell ⟨T, 6, none⟩ .nilFunc).alloc (ansO 7 s' h' 0 e') = Y at *
  clear hTW hFW hRW hBW hGW0 hTWl hBWl
  go_step3
  obtain ⟨t0, t1, t2, t3, t4, t5, t6, t7, t8, t9, t10, t11, t12, t13, t14, t15, tf⟩ := cells16 hTY
  go_wp2_with fail
  go_quiet (fail)
  have hTY1 : (Y.drewN nq).heap[T]? = _ := hTY
  have hFY1 : (Y.drewN nq).heap[F]? = _ := hFY
  have hRY1 : (Y.drewN nq).heap[w.heap.size + 1]? = _ := hRY
  have hGY1 : w.grownBy (Y.drewN nq) (some T) := grown_drewN hGY nq
  generalize Y.drewN nq = Y1 at *
  clear t0 t1 t2 t3 t4 t5 t6 t7 t8 t9 t10 t11 t12 t13 t14 t15 tf
  clear hTY hFY hRY hGY
  obtain ⟨t0, t1, t2, t3, t4, t5, t6, t7, t8, t9, t10, t11, t12, t13, t14, t15, tf⟩ := cells16 hTY1
  go_wp2_with fail
  go_quiet (fail)
  have hTY11 : (Y1.drewN nq).heap[T]? = _ := hTY1
  have hFY11 : (Y1.drewN nq).heap[F]? = _ := hFY1
  have hRY11 : (Y1.drewN nq).heap[w.heap.size + 1]? = _ := hRY1
  have hGY11 : w.grownBy (Y1.drewN nq) (some T) := grown_drewN hGY1 nq
  generalize Y1.drewN nq = Y11 at *
  clear t0 t1 t2 t3 t4 t5 t6 t7 t8 t9 t10 t11 t12 t13 t14 t15 tf
  clear hTY1 hFY1 hRY1 hGY1
  obtain ⟨t0, t1, t2, t3, t4, t5, t6, t7, t8, t9, t10, t11, t12, t13, t14, t15, tf⟩ := cells16 hTY11
  go_wp2_with fail
  clear t0 t1 t2 t3 t4 t5 t6 t7 t8 t9 t10 t11 t12 t13 t14 t15 tf
  have hS0 : SF T F 1 (.slice (some ⟨F, 0, none⟩) 2 2) (.int .i64 1) (stepV 27 T) Y11 := ⟨cell_of hTY11 3, cell_of hTY11 4, cell_of hFY11 1⟩
  have hTZl := block_lt hTY11
  have hFZl := block_lt hFY11
  have hS0d : SF T F 1 (.slice (some ⟨F, 0, none⟩) 2 2) (.int .i64 1) (stepV 27 T) Y11.drew := hS0
  have hS0a : SF T F 1 (.slice (some ⟨F, 0, none⟩) 2 2) (.int .i64 1) (stepV 27 T) (Y11.alloc callZ).drew := SF_alloc hS0 _
  have hTd : Y11.drew.heap[T]? = some (taskB 2 1 (.slice (some ⟨F, 0, none⟩) 2 2) 1 nilS .nilFunc 7 s' h' 0 e') := hTY11
  have hTa : (Y11.alloc callZ).drew.heap[T]? = some (taskB 2 1 (.slice (some ⟨F, 0, none⟩) 2 2) 1 nilS .nilFunc 7 s' h' 0 e') := alloc_stays Y11 callZ _ _ hTY11
  have hTd0 : Y11.drew.cell? ⟨T, 0, none⟩ = some nilS := cell_of hTd 0
  have hTa0 : (Y11.alloc callZ).drew.cell? ⟨T, 0, none⟩ = some nilS := cell_of hTa 0
  have hFd : Y11.drew.cell? ⟨F, 1, none⟩ = some (stepV 27 T) := hS0.2.2
  have hFa : (Y11.alloc callZ).drew.cell? ⟨F, 1, none⟩ = some (stepV 27 T) := (SF_alloc hS0 callZ).2.2
  have h7a : (Y11.alloc callZ).drew.heap[Y11.heap.size]? = some callZ := heap_alloc_new Y11 callZ
  have hZT : Y11.heap.size ≠ T := by omega
  have hZF : Y11.heap.size ≠ F := by omega
  go_region_held3 (fun w' => w'.cell? ⟨T, 3, none⟩ = some (.slice (some ⟨F, 0, none⟩) 2 2) ∧ w'.cell? ⟨T, 4, none⟩ = some (.int .i64 1) ∧ w'.cell? ⟨F, 1, none⟩ = some (stepV 27 T))
    (first | with_reducible assumption | with_reducible exact hS0 | with_reducible exact hS0d | with_reducible exact hS1 | with_reducible exact SF_alloc hS1 _ | with_reducible exact hS0a | with_reducible exact SF_set (SF_set (SF_set (SF_set (SF_set (SF_set (SF_set (SF_set (SF_set (SF_set (SF_set hS1 _ _ _ hZT hZF) _ _ _ hZT hZF) _ _ _ hZT hZF) _ _ _ hZT hZF) _ _ _ hZT hZF) _ _ _ hZT hZF) _ _ _ hZT hZF) _ _ _ hZT hZF) _ _ _ hZT hZF) _ _ _ hZT hZF) _ _ _ hZT hZF)
    (first | (go_at_call 27; refine (guard_safe T 2 1 (.slice (some ⟨F, 0, none⟩) 2 2) 1 nilS .nilFunc s' h' e' _ (by first | with_reducible exact hTd | with_reducible exact hTa)).mono ?_; rintro e w1 ⟨rfl, hb1⟩; have hT1 : w1.heap[T]? = some (taskB 2 1 (.slice (some ⟨F, 0, none⟩) 2 2) 1 nilS .nilFunc 7 s' h' 0 e') := (hb1.block T (by simp; omega)).trans (by first | with_reducible exact hTd | with_reducible exact hTa); have hg1 := grown_below hb1 T; have hS1 : SF T F 1 (.slice (some ⟨F, 0, none⟩) 2 2) (.int .i64 1) (stepV 27 T) w1 := ⟨cell_of hT1 3, cell_of hT1 4, (World.cell?_of_block (hg1.block F (by simp; omega) (fun e => hTF (Option.some.inj e).symm))).trans (by first | with_reducible exact hFd | with_reducible exact hFa)⟩; try (have h7 := (hg1.block Y11.heap.size (by simp) (fun e => by have := Option.some.inj e; omega)).trans h7a; obtain ⟨d0, d1, d2, d3, d4, d5, d6, d7, d8, d9, d10, df⟩ := cells11 h7)))
  all_goals clear hS0 hS0d hS0a hTd hTa hFd hFa hS1 hTd0 hTa0
  ·
    have hsz : w.heap.size + 1 < Y11.heap.size := block_lt hRY11
    have hw1s := hg1.size
    have hR1 := (hg1.block (w.heap.size + 1) (by simp; omega) (fun e => by have := Option.some.inj e; omega)).trans hRY11
    have hF1 := (hg1.block F (by simp; omega) (fun e => hTF (Option.some.inj e).symm)).trans hFY11
    rw [show Y11.drew.heap.size = Y11.heap.size from rfl] at hw1s
    have hTX := alloc_stays w1 (.cells #[.int .i64 7, .int .i64 0, .int .i64 0, .int .i64 0, .int .i64 0, .int .i64 3, .int .i64 6, .int .i64 0, .bool true, .slice none 0 0, .slice none 0 0] 48) _ _ hT1
    have hRX := alloc_stays w1 (.cells #[.int .i64 7, .int .i64 0, .int .i64 0, .int .i64 0, .int .i64 0, .int .i64 3, .int .i64 6, .int .i64 0, .bool true, .slice none 0 0, .slice none 0 0] 48) _ _ hR1
    have hFX := alloc_stays w1 (.cells #[.int .i64 7, .int .i64 0, .int .i64 0, .int .i64 0, .int .i64 0, .int .i64 3, .int .i64 6, .int .i64 0, .bool true, .slice none 0 0, .slice none 0 0] 48) _ _ hF1
    have h7X := heap_alloc_new w1 (.cells #[.int .i64 7, .int .i64 0, .int .i64 0, .int .i64 0, .int .i64 0, .int .i64 3, .int .i64 6, .int .i64 0, .bool true, .slice none 0 0, .slice none 0 0] 48)
    have hGX : w.grownBy (w1.alloc (.cells #[.int .i64 7, .int .i64 0, .int .i64 0, .int .i64 0, .int .i64 0, .int .i64 3, .int .i64 6, .int .i64 0, .bool true, .slice none 0 0, .slice none 0 0] 48)) (some T) := (hGY11.trans (grown_drew hg1)).trans (grown_below (below_new w1 _) T)
    have hb7 : w.heap.size + 1 < w1.heap.size := by omega
    generalize w1.alloc (.cells #[.int .i64 7, .int .i64 0, .int .i64 0, .int .i64 0, .int .i64 0, .int .i64 3, .int .i64 6, .int .i64 0, .bool true, .slice none 0 0, .slice none 0 0] 48) = X at *
    generalize w1.heap.size = b7 at *
    obtain ⟨t0, t1, t2, t3, t4, t5, t6, t7, t8, t9, t10, t11, t12, t13, t14, t15, tf⟩ := cells16 hTX
    obtain ⟨r0, r1, r2, r3, r4, r5, r6, r7, r8, r9, r10, rf⟩ := cells11 hRX
    obtain ⟨k0, k1, k2, k3, k4, k5, k6, k7, k8, k9, k10, kf⟩ := cells11 h7X
    have hn106 : ¬ w.heap.size + 1 = T := by omega
    have hn107 : ¬ T = w.heap.size + 1 := by omega
    have hn108 : ¬ b7 = T := by omega
    have hn109 : ¬ T = b7 := by omega
    have hn110 : ¬ b7 = w.heap.size + 1 := by omega
    have hn111 : ¬ w.heap.size + 1 = b7 := by omega
    have hs := heap_setCell_same X T 4 _ 88 (.int .i64 2) hTX
    have hTW : (X.setCell ⟨T, 4, none⟩ (.int .i64 2)).heap[T]? = some (taskB 2 1 (.slice (some ⟨F, 0, none⟩) 2 2) 2 nilS .nilFunc 7 s' h' 0 e') := by simpa using hs
    have hGW := grown_cell hGX T 4 (.int .i64 2) (.inl rfl)
    go_wp2
    try simp only [Exit.jump]
    try rw [Exit.noGoto_ret]
    have hresl : Tryz.f10.results = #[.cell 4 48, .tmp 5] := by kernel_rfl
    refine bodyPost_ret (v := .tuple #[.agg #[.int .i64 7, .int .i64 0, .int .i64 0, .int .i64 0, .int .i64 0, .int .i64 3, .int .i64 6, .int .i64 0, .bool true, .slice none 0 0, .slice none 0 0], .bool true]) ?_ rfl ⟨rfl, (set11_other (show T ≠ w.heap.size + 1 by omega) _ _ _ _ _ _ _ _ _ _ _).trans hTW, grown_set11 hGW (Nat.le_succ _) _ _ _ _ _ _ _ _ _ _ _⟩
    · simp only [results, hresl]
      go_simp
  ·
    have hsz : w.heap.size + 1 < Y11.heap.size := block_lt hRY11
    have hw1s := hg1.size
    have hR1 := (hg1.block (w.heap.size + 1) (by simp; omega) (fun e => by have := Option.some.inj e; omega)).trans (alloc_stays Y11 callZ _ _ hRY11)
    have hF1 := (hg1.block F (by simp; omega) (fun e => hTF (Option.some.inj e).symm)).trans (alloc_stays Y11 callZ _ _ hFY11)
    have hw1s' : Y11.heap.size + 1 ≤ w1.heap.size := by have h : (Y11.alloc callZ).drew.heap.size = Y11.heap.size + 1 := (by simp); rw [h] at hw1s; exact hw1s
    have hTX := (set11_other (x := w1) (g := Y11.heap.size) (Ne.symm hZT) (.int .i64 7) (.int .i64 0) (.int .i64 0) (.int .i64 0) (.int .i64 0) (.int .i64 3) (.int .i64 6) (.int .i64 0) (.bool true) (.slice none 0 0) (.slice none 0 0)).trans hT1
    have hFX := (set11_other (x := w1) (g := Y11.heap.size) (Ne.symm hZF) (.int .i64 7) (.int .i64 0) (.int .i64 0) (.int .i64 0) (.int .i64 0) (.int .i64 3) (.int .i64 6) (.int .i64 0) (.bool true) (.slice none 0 0) (.slice none 0 0)).trans hF1
    have hRX := (set11_other (x := w1) (g := Y11.heap.size) (show w.heap.size + 1 ≠ Y11.heap.size by omega) (.int .i64 7) (.int .i64 0) (.int .i64 0) (.int .i64 0) (.int .i64 0) (.int .i64 3) (.int .i64 6) (.int .i64 0) (.bool true) (.slice none 0 0) (.slice none 0 0)).trans hR1
    have h7X := set11 h7 (.int .i64 7) (.int .i64 0) (.int .i64 0) (.int .i64 0) (.int .i64 0) (.int .i64 3) (.int .i64 6) (.int .i64 0) (.bool true) (.slice none 0 0) (.slice none 0 0)
    have hGX : w.grownBy (((((((((((w1.setCell ⟨Y11.heap.size, 0, none⟩ (.int .i64 7)).setCell ⟨Y11.heap.size, 1, none⟩ (.int .i64 0)).setCell ⟨Y11.heap.size, 2, none⟩ (.int .i64 0)).setCell ⟨Y11.heap.size, 3, none⟩ (.int .i64 0)).setCell ⟨Y11.heap.size, 4, none⟩ (.int .i64 0)).setCell ⟨Y11.heap.size, 5, none⟩ (.int .i64 3)).setCell ⟨Y11.heap.size, 6, none⟩ (.int .i64 6)).setCell ⟨Y11.heap.size, 7, none⟩ (.int .i64 0)).setCell ⟨Y11.heap.size, 8, none⟩ (.bool true)).setCell ⟨Y11.heap.size, 9, none⟩ (.slice none 0 0)).setCell ⟨Y11.heap.size, 10, none⟩ (.slice none 0 0)) (some T) := grown_set11 ((hGY11.trans (grown_below (below_new Y11 callZ) T)).trans (grown_drew hg1)) (by omega) _ _ _ _ _ _ _ _ _ _ _
    generalize ((((((((((w1.setCell ⟨Y11.heap.size, 0, none⟩ (.int .i64 7)).setCell ⟨Y11.heap.size, 1, none⟩ (.int .i64 0)).setCell ⟨Y11.heap.size, 2, none⟩ (.int .i64 0)).setCell ⟨Y11.heap.size, 3, none⟩ (.int .i64 0)).setCell ⟨Y11.heap.size, 4, none⟩ (.int .i64 0)).setCell ⟨Y11.heap.size, 5, none⟩ (.int .i64 3)).setCell ⟨Y11.heap.size, 6, none⟩ (.int .i64 6)).setCell ⟨Y11.heap.size, 7, none⟩ (.int .i64 0)).setCell ⟨Y11.heap.size, 8, none⟩ (.bool true)).setCell ⟨Y11.heap.size, 9, none⟩ (.slice none 0 0)).setCell ⟨Y11.heap.size, 10, none⟩ (.slice none 0 0) = X at *
    have hb7 : w.heap.size + 1 < Y11.heap.size := hsz
    generalize Y11.heap.size = b7 at *
    obtain ⟨t0, t1, t2, t3, t4, t5, t6, t7, t8, t9, t10, t11, t12, t13, t14, t15, tf⟩ := cells16 hTX
    obtain ⟨r0, r1, r2, r3, r4, r5, r6, r7, r8, r9, r10, rf⟩ := cells11 hRX
    obtain ⟨k0, k1, k2, k3, k4, k5, k6, k7, k8, k9, k10, kf⟩ := cells11 h7X
    have hn139 : ¬ w.heap.size + 1 = T := by omega
    have hn140 : ¬ T = w.heap.size + 1 := by omega
    have hn141 : ¬ b7 = T := by omega
    have hn142 : ¬ T = b7 := by omega
    have hn143 : ¬ b7 = w.heap.size + 1 := by omega
    have hn144 : ¬ w.heap.size + 1 = b7 := by omega
    have hs := heap_setCell_same X T 4 _ 88 (.int .i64 2) hTX
    have hTW : (X.setCell ⟨T, 4, none⟩ (.int .i64 2)).heap[T]? = some (taskB 2 1 (.slice (some ⟨F, 0, none⟩) 2 2) 2 nilS .nilFunc 7 s' h' 0 e') := by simpa using hs
    have hGW := grown_cell hGX T 4 (.int .i64 2) (.inl rfl)
    go_wp2
    try simp only [Exit.jump]
    try rw [Exit.noGoto_ret]
    have hresl : Tryz.f10.results = #[.cell 4 48, .tmp 5] := by kernel_rfl
    refine bodyPost_ret (v := .tuple #[.agg #[.int .i64 7, .int .i64 0, .int .i64 0, .int .i64 0, .int .i64 0, .int .i64 3, .int .i64 6, .int .i64 0, .bool true, .slice none 0 0, .slice none 0 0], .bool true]) ?_ rfl ⟨rfl, (set11_other (show T ≠ w.heap.size + 1 by omega) _ _ _ _ _ _ _ _ _ _ _).trans hTW, grown_set11 hGW (Nat.le_succ _) _ _ _ _ _ _ _ _ _ _ _⟩
    · simp only [results, hresl]
      go_simp

end Go.Proofs.YtpilfhjlfbjloaaGreatDoor
