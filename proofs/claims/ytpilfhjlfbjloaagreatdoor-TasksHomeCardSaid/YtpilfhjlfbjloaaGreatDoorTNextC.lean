/-
  The walks of (*tasks.Task).Next at tasks without orders, state by state. Conditions: a task's block as it stands. (Printed by gen_next.py.)
-/
import Derived.Test.YtpilfhjlfbjloaaGreatDoorTNextLib
namespace Go.Proofs.YtpilfhjlfbjloaaGreatDoor
open Go.RowKit

set_option maxRecDepth 100000 in
set_option maxHeartbeats 3200000 in
theorem cm_once (T F : Nat) (mode : Int) (source : Int) (hold : Bool) (flags : Int) (epoch : Int) (O : Nat) (m' s' : Int) (h' : Bool) (f' e' : Int) (w : World)
    (hT : w.heap[T]? = some (taskB 1 0 (.slice (some ⟨F, 0, none⟩) 3 3) 0 (.slice (some ⟨O, 0, none⟩) 1 1) .nilFunc mode source hold flags epoch))
    (hF : w.heap[F]? = some (.cells #[stepV 22 T, stepV 23 T, stepV 24 T] 93))  (hO : w.heap[O]? = some (callO 0 1)) :
    Calls Tryz.prog 10 #[.pointer (some ⟨T, 0, none⟩), ansV 0 0 0 0 0 m' s' h' f' e' nilS nilS] w fun e w' => e = .returned (.tuple #[.agg #[.int .i64 0, .int .i64 1, .int .i64 0, .int .i64 0, .int .i64 0, .int .i64 0, .int .i64 0, .int .i64 0, .bool false, .slice none 0 0, .slice none 0 0], .bool true]) ∧ w'.heap[T]? = some (taskB 1 0 (.slice (some ⟨F, 0, none⟩) 3 3) 0 (.slice (some ⟨O, 0, none⟩) 0 0) .nilFunc mode source hold flags epoch) ∧ w.grownBy w' (some T) := by
  have hfn1 := fn_nil
  have hfn2 := fn_some
  have hTl := block_lt hT
  have hFl := block_lt hF
  have hTY := alloc_stays (w.alloc (ansO m' s' h' f' e')) callZ T _ (alloc_stays w (ansO m' s' h' f' e') T _ hT)
  have hFY := alloc_stays (w.alloc (ansO m' s' h' f' e')) callZ F _ (alloc_stays w (ansO m' s' h' f' e') F _ hF)
  have hRY := heap_alloc_new (w.alloc (ansO m' s' h' f' e')) callZ
  rw [alloc_size] at hRY
  have hGY := grown_below (below_new2 w (ansO m' s' h' f' e') callZ) T
  obtain ⟨t0, t1, t2, t3, t4, t5, t6, t7, t8, t9, t10, t11, t12, t13, t14, t15, tf⟩ := cells16 hTY
  go_enter Tryz.func10, Tryz.ntmps10
  go_wp2
  have hOl := block_lt hO
  have hOY := alloc_stays (w.alloc (ansO m' s' h' f' e')) callZ O _ (alloc_stays w (ansO m' s' h' f' e') O _ hO)
  go_step3
  generalize (w.alloc (ansO m' s' h' f' e')).alloc callZ = Y at *
  obtain ⟨k0, k1, k2, k3, k4, k5, k6, k7, k8, k9, k10, kf⟩ := cells11 hOY
  obtain ⟨r0, r1, r2, r3, r4, r5, r6, r7, r8, r9, r10, rf⟩ := cells11 hRY
  have hTYl := block_lt hTY
  have hRYl := block_lt hRY
  have hOYl := block_lt hOY
  have hn1 : ¬ T = Y.heap.size := by omega
  have hn2 : ¬ Y.heap.size = T := by omega
  have hn3 : ¬ T = w.heap.size + 1 := by omega
  have hn4 : ¬ w.heap.size + 1 = T := by omega
  have hn5 : ¬ Y.heap.size = w.heap.size + 1 := by omega
  have hn6 : ¬ w.heap.size + 1 = Y.heap.size := by omega
  go_wp2
  have hs := heap_setCell_same Y T 5 _ 88 (.slice (some ⟨O, 0, none⟩) 0 0) hTY
  try simp only [Exit.jump]
  try rw [Exit.noGoto_ret]
  have hresl : Tryz.f10.results = #[.cell 4 48, .tmp 5] := by kernel_rfl
  refine bodyPost_ret (v := .tuple #[.agg #[.int .i64 0, .int .i64 1, .int .i64 0, .int .i64 0, .int .i64 0, .int .i64 0, .int .i64 0, .int .i64 0, .bool false, .slice none 0 0, .slice none 0 0], .bool true]) ?_ rfl ⟨rfl, alloc_stays _ _ _ _ ((set11_other (show T ≠ w.heap.size + 1 by omega) _ _ _ _ _ _ _ _ _ _ _).trans (by simpa using hs)), (grown_set11 (grown_cell hGY T 5 _ (.inl rfl)) (Nat.le_succ _) _ _ _ _ _ _ _ _ _ _ _).trans (grown_below (below_new _ _) T)⟩
  · simp only [results, hresl]
    go_simp

set_option maxRecDepth 100000 in
set_option maxHeartbeats 3200000 in
theorem cm_first (T F : Nat) (mode : Int) (source : Int) (hold : Bool) (flags : Int) (epoch : Int) (O : Nat) (m' s' : Int) (h' : Bool) (f' e' : Int) (w : World)
    (hT : w.heap[T]? = some (taskB 1 0 (.slice (some ⟨F, 0, none⟩) 3 3) 0 (.slice (some ⟨O, 0, none⟩) 0 0) .nilFunc mode source hold flags epoch))
    (hF : w.heap[F]? = some (.cells #[stepV 22 T, stepV 23 T, stepV 24 T] 93)) (hTF : T ≠ F) :
    Calls Tryz.prog 10 #[.pointer (some ⟨T, 0, none⟩), ansV 0 0 0 0 0 m' s' h' f' e' nilS nilS] w fun e w' => e = .returned (.tuple #[callV 9 0 0 0 0 0 0 0 false nilS nilS, .bool true]) ∧ ∃ B, w'.heap[T]? = some (taskB 1 0 (.slice (some ⟨F, 0, none⟩) 3 3) 3 (.slice (some ⟨O, 0, none⟩) 0 0) (.func (.func 55) #[] #[.pointer (some ⟨B, 0, none⟩)]) mode source hold flags epoch) ∧ w'.heap[B]? = some (.cells #[.pointer (some ⟨T, 0, none⟩)] 31) ∧ B ≠ T ∧ w.grownBy w' (some T) := by
  have hfn1 := fn_nil
  have hfn2 := fn_some
  have hTl := block_lt hT
  have hFl := block_lt hF
  have hTY := alloc_stays (w.alloc (ansO m' s' h' f' e')) callZ T _ (alloc_stays w (ansO m' s' h' f' e') T _ hT)
  have hFY := alloc_stays (w.alloc (ansO m' s' h' f' e')) callZ F _ (alloc_stays w (ansO m' s' h' f' e') F _ hF)
  have hRY := heap_alloc_new (w.alloc (ansO m' s' h' f' e')) callZ
  rw [alloc_size] at hRY
  have hGY := grown_below (below_new2 w (ansO m' s' h' f' e') callZ) T
  obtain ⟨t0, t1, t2, t3, t4, t5, t6, t7, t8, t9, t10, t11, t12, t13, t14, t15, tf⟩ := cells16 hTY
  go_enter Tryz.func10, Tryz.ntmps10
  go_wp2
  obtain ⟨J, hJ⟩ : ∃ J : Act → World → Prop, J = (fun a' w' => (∃ v : Nat → Value, a' = { tmps := #[.pointer (some ⟨T, 0, none⟩), v 1, v 2, .pointer (some ⟨w.heap.size, 0, none⟩), .pointer (some ⟨w.heap.size + 1, 0, none⟩), v 5, v 6, v 7, v 8, v 9, v 10, v 11, v 12, v 13, v 14, v 15, v 16, v 17, v 18, v 19, v 20, v 21, v 22, v 23, v 24, v 25, v 26, v 27, v 28, v 29, v 30, v 31, v 32, v 33, v 34, v 35, v 36, v 37, v 38, v 39, v 40, v 41, v 42, v 43, v 44, v 45, v 46, v 47, v 48, v 49, v 50, v 51, v 52, v 53, v 54, v 55, v 56, v 57, v 58, v 59, v 60, v 61, v 62, v 63, v 64, v 65, v 66, v 67, v 68, v 69, v 70, v 71, v 72, v 73, v 74, v 75, v 76, v 77, v 78, v 79, v 80, v 81, v 82, v 83, v 84, v 85, v 86, v 87, v 88, v 89, v 90, v 91, v 92, v 93, v 94, v 95, v 96, v 97, v 98, v 99, v 100, v 101], defers := [] }) ∧ (w'.heap[T]? = some (taskB 1 0 (.slice (some ⟨F, 0, none⟩) 3 3) 1 (.slice (some ⟨O, 0, none⟩) 0 0) .nilFunc mode source hold flags epoch) ∨ w'.heap[T]? = some (taskB 1 0 (.slice (some ⟨F, 0, none⟩) 3 3) 2 (.slice (some ⟨O, 0, none⟩) 0 0) .nilFunc mode source hold flags epoch)) ∧ w'.heap[F]? = some (.cells #[stepV 22 T, stepV 23 T, stepV 24 T] 93) ∧ w'.heap[w.heap.size + 1]? = some callZ ∧ w.grownBy w' (some T)) := ⟨_, rfl⟩
  have HJ := hide hJ
  clear hJ
  obtain ⟨M, hM⟩ : ∃ M : Act → World → Nat, M = fun _ w' => match w'.cell? ⟨T, 4, none⟩ with | some (.int _ n) => (3 - n).toNat | _ => 0 := ⟨_, rfl⟩
  have HM := hide hM
  clear hM
  refine wp_scope_jumps 0 J M rfl ?_ ?_
  ·
    go_wp2_with fail
    go_step3
    generalize (w.alloc (ansO m' s' h' f' e')).alloc callZ = Y at *
    clear t0 t1 t2 t3 t4 t5 t6 t7 t8 t9 t10 t11 t12 t13 t14 t15 tf
    obtain ⟨t0, t1, t2, t3, t4, t5, t6, t7, t8, t9, t10, t11, t12, t13, t14, t15, tf⟩ := cells16 hTY
    go_wp2_with fail
    go_quiet (fail)
    have hTY1 : (Y.drewN nq).heap[T]? = _ := hTY
    have hFY1 : (Y.drewN nq).heap[F]? = _ := hFY
    have hRY1 : (Y.drewN nq).heap[w.heap.size + 1]? = _ := hRY
    have hGY1 : w.grownBy (Y.drewN nq) (some T) := grown_drewN hGY nq
    generalize Y.drewN nq = Y1 at *
    clear t0 t1 t2 t3 t4 t5 t6 t7 t8 t9 t10 t11 t12 t13 t14 t15 tf
    clear hTY hFY hRY hGY
    obtain ⟨t0, t1, t2, t3, t4, t5, t6, t7, t8, t9, t10, t11, t12, t13, t14, t15, tf⟩ := cells16 hTY1
    go_wp2_with fail
    go_quiet (fail)
    have hTY11 : (Y1.drewN nq).heap[T]? = _ := hTY1
    have hFY11 : (Y1.drewN nq).heap[F]? = _ := hFY1
    have hRY11 : (Y1.drewN nq).heap[w.heap.size + 1]? = _ := hRY1
    have hGY11 : w.grownBy (Y1.drewN nq) (some T) := grown_drewN hGY1 nq
    generalize Y1.drewN nq = Y11 at *
    clear t0 t1 t2 t3 t4 t5 t6 t7 t8 t9 t10 t11 t12 t13 t14 t15 tf
    clear hTY1 hFY1 hRY1 hGY1
    obtain ⟨t0, t1, t2, t3, t4, t5, t6, t7, t8, t9, t10, t11, t12, t13, t14, t15, tf⟩ := cells16 hTY11
    go_wp2_with fail
    clear t0 t1 t2 t3 t4 t5 t6 t7 t8 t9 t10 t11 t12 t13 t14 t15 tf
    have hS0 : SF T F 0 (.slice (some ⟨F, 0, none⟩) 3 3) (.int .i64 0) (stepV 22 T) Y11 := ⟨cell_of hTY11 3, cell_of hTY11 4, cell_of hFY11 0⟩
    have hTZl := block_lt hTY11
    have hFZl := block_lt hFY11
    have hS0d : SF T F 0 (.slice (some ⟨F, 0, none⟩) 3 3) (.int .i64 0) (stepV 22 T) Y11.drew := hS0
    have hS0a : SF T F 0 (.slice (some ⟨F, 0, none⟩) 3 3) (.int .i64 0) (stepV 22 T) (Y11.alloc callZ).drew := SF_alloc hS0 _
    have hTd : Y11.drew.heap[T]? = some (taskB 1 0 (.slice (some ⟨F, 0, none⟩) 3 3) 0 (.slice (some ⟨O, 0, none⟩) 0 0) .nilFunc mode source hold flags epoch) := hTY11
    have hTa : (Y11.alloc callZ).drew.heap[T]? = some (taskB 1 0 (.slice (some ⟨F, 0, none⟩) 3 3) 0 (.slice (some ⟨O, 0, none⟩) 0 0) .nilFunc mode source hold flags epoch) := alloc_stays Y11 callZ _ _ hTY11
    have hTd0 : Y11.drew.cell? ⟨T, 0, none⟩ = some nilS := cell_of hTd 0
    have hTa0 : (Y11.alloc callZ).drew.cell? ⟨T, 0, none⟩ = some nilS := cell_of hTa 0
    have hFd : Y11.drew.cell? ⟨F, 0, none⟩ = some (stepV 22 T) := hS0.2.2
    have hFa : (Y11.alloc callZ).drew.cell? ⟨F, 0, none⟩ = some (stepV 22 T) := (SF_alloc hS0 callZ).2.2
    have h7a : (Y11.alloc callZ).drew.heap[Y11.heap.size]? = some callZ := heap_alloc_new Y11 callZ
    have hZT : Y11.heap.size ≠ T := by omega
    have hZF : Y11.heap.size ≠ F := by omega
    go_region_held3 (fun w' => w'.cell? ⟨T, 3, none⟩ = some (.slice (some ⟨F, 0, none⟩) 3 3) ∧ w'.cell? ⟨T, 4, none⟩ = some (.int .i64 0) ∧ w'.cell? ⟨F, 0, none⟩ = some (stepV 22 T))
      (first | with_reducible assumption | with_reducible exact hS0 | with_reducible exact hS0d | with_reducible exact hS1 | with_reducible exact SF_alloc hS1 _ | with_reducible exact hS0a | with_reducible exact SF_set (SF_set (SF_set (SF_set (SF_set (SF_set (SF_set (SF_set (SF_set (SF_set (SF_set hS1 _ _ _ hZT hZF) _ _ _ hZT hZF) _ _ _ hZT hZF) _ _ _ hZT hZF) _ _ _ hZT hZF) _ _ _ hZT hZF) _ _ _ hZT hZF) _ _ _ hZT hZF) _ _ _ hZT hZF) _ _ _ hZT hZF) _ _ _ hZT hZF)
      (first | (go_at_call 22; refine (point_nil T _ (by first | with_reducible exact hTd0 | with_reducible exact hTa0)).mono ?_; rintro e w1 ⟨⟨wA, wn, wc, rfl⟩, hb1⟩; have hT1 : w1.heap[T]? = some (taskB 1 0 (.slice (some ⟨F, 0, none⟩) 3 3) 0 (.slice (some ⟨O, 0, none⟩) 0 0) .nilFunc mode source hold flags epoch) := (hb1.block T (by simp; omega)).trans (by first | with_reducible exact hTd | with_reducible exact hTa); have hg1 := grown_below hb1 T; have hS1 : SF T F 0 (.slice (some ⟨F, 0, none⟩) 3 3) (.int .i64 0) (stepV 22 T) w1 := ⟨cell_of hT1 3, cell_of hT1 4, (World.cell?_of_block (hg1.block F (by simp; omega) (fun e => hTF (Option.some.inj e).symm))).trans (by first | with_reducible exact hFd | with_reducible exact hFa)⟩; try (have h7 := (hg1.block Y11.heap.size (by simp) (fun e => by have := Option.some.inj e; omega)).trans h7a; obtain ⟨d0, d1, d2, d3, d4, d5, d6, d7, d8, d9, d10, df⟩ := cells11 h7)))
    all_goals clear hS0 hS0d hS0a hTd hTa hFd hFa hS1 hTd0 hTa0
    ·
      have hsz : w.heap.size + 1 < Y11.heap.size := block_lt hRY11
      have hw1s := hg1.size
      have hR1 := (hg1.block (w.heap.size + 1) (by simp; omega) (fun e => by have := Option.some.inj e; omega)).trans hRY11
      have hF1 := (hg1.block F (by simp; omega) (fun e => hTF (Option.some.inj e).symm)).trans hFY11
      rw [show Y11.drew.heap.size = Y11.heap.size from rfl] at hw1s
      have hTX := alloc_stays w1 (.cells #[.int .i64 1, .int .i64 1, .int .i64 0, .int .i64 0, .int .i64 0, .int .i64 0, .int .i64 0, .int .i64 0, .bool false, .slice none 0 0, .slice wA wn wc] 48) _ _ hT1
      have hRX := alloc_stays w1 (.cells #[.int .i64 1, .int .i64 1, .int .i64 0, .int .i64 0, .int .i64 0, .int .i64 0, .int .i64 0, .int .i64 0, .bool false, .slice none 0 0, .slice wA wn wc] 48) _ _ hR1
      have hFX := alloc_stays w1 (.cells #[.int .i64 1, .int .i64 1, .int .i64 0, .int .i64 0, .int .i64 0, .int .i64 0, .int .i64 0, .int .i64 0, .bool false, .slice none 0 0, .slice wA wn wc] 48) _ _ hF1
      have h7X := heap_alloc_new w1 (.cells #[.int .i64 1, .int .i64 1, .int .i64 0, .int .i64 0, .int .i64 0, .int .i64 0, .int .i64 0, .int .i64 0, .bool false, .slice none 0 0, .slice wA wn wc] 48)
      have hGX : w.grownBy (w1.alloc (.cells #[.int .i64 1, .int .i64 1, .int .i64 0, .int .i64 0, .int .i64 0, .int .i64 0, .int .i64 0, .int .i64 0, .bool false, .slice none 0 0, .slice wA wn wc] 48)) (some T) := (hGY11.trans (grown_drew hg1)).trans (grown_below (below_new w1 _) T)
      have hb7 : w.heap.size + 1 < w1.heap.size := by omega
      generalize w1.alloc (.cells #[.int .i64 1, .int .i64 1, .int .i64 0, .int .i64 0, .int .i64 0, .int .i64 0, .int .i64 0, .int .i64 0, .bool false, .slice none 0 0, .slice wA wn wc] 48) = X at *
      generalize w1.heap.size = b7 at *
      obtain ⟨t0, t1, t2, t3, t4, t5, t6, t7, t8, t9, t10, t11, t12, t13, t14, t15, tf⟩ := cells16 hTX
      obtain ⟨r0, r1, r2, r3, r4, r5, r6, r7, r8, r9, r10, rf⟩ := cells11 hRX
      obtain ⟨k0, k1, k2, k3, k4, k5, k6, k7, k8, k9, k10, kf⟩ := cells11 h7X
      have hn82 : ¬ w.heap.size + 1 = T := by omega
      have hn83 : ¬ T = w.heap.size + 1 := by omega
      have hn84 : ¬ b7 = T := by omega
      have hn85 : ¬ T = b7 := by omega
      have hn86 : ¬ b7 = w.heap.size + 1 := by omega
      have hn87 : ¬ w.heap.size + 1 = b7 := by omega
      have hs := heap_setCell_same X T 4 _ 88 (.int .i64 1) hTX
      have hTW : (X.setCell ⟨T, 4, none⟩ (.int .i64 1)).heap[T]? = some (taskB 1 0 (.slice (some ⟨F, 0, none⟩) 3 3) 1 (.slice (some ⟨O, 0, none⟩) 0 0) .nilFunc mode source hold flags epoch) := by simpa using hs
      have hGW := grown_cell hGX T 4 (.int .i64 1) (.inl rfl)
      go_wp2
      have hFW := (Below.heap_setCell X ⟨T, 4, none⟩ (.int .i64 1) F (Ne.symm hTF)).trans hFX
      have hRW := (Below.heap_setCell X ⟨T, 4, none⟩ (.int .i64 1) (w.heap.size + 1) (show w.heap.size + 1 ≠ T by omega)).trans hRX
      go_step3
      refine ⟨rfl, ?_⟩
      rw [HJ.out]
      exact ⟨frame_v T w.heap.size (w.heap.size + 1) _ _ _ _ _ _ _ _ _ _ _ _ _ _ _ _ _ _ _ _ _ _ _ _ _ _ _ _ _ _ _ _ _ _ _ _ _ _ _ _ _ _ _ _ _ _ _ _ _ _ _ _ _ _ _ _ _ _ _ _ _ _ _ _ _ _ _ _ _ _ _ _ _ _ _ _ _ _ _ _ _ _ _ _ _ _ _ _ _ _ _ _ _ _ _ _ _ _ _, .inl hTW, hFW, hRW, hGW⟩
    ·
      have hsz : w.heap.size + 1 < Y11.heap.size := block_lt hRY11
      have hw1s := hg1.size
      have hR1 := (hg1.block (w.heap.size + 1) (by simp; omega) (fun e => by have := Option.some.inj e; omega)).trans (alloc_stays Y11 callZ _ _ hRY11)
      have hF1 := (hg1.block F (by simp; omega) (fun e => hTF (Option.some.inj e).symm)).trans (alloc_stays Y11 callZ _ _ hFY11)
      have hw1s' : Y11.heap.size + 1 ≤ w1.heap.size := by have h : (Y11.alloc callZ).drew.heap.size = Y11.heap.size + 1 := (by simp); rw [h] at hw1s; exact hw1s
      have hTX := (set11_other (x := w1) (g := Y11.heap.size) (Ne.symm hZT) (.int .i64 1) (.int .i64 1) (.int .i64 0) (.int .i64 0) (.int .i64 0) (.int .i64 0) (.int .i64 0) (.int .i64 0) (.bool false) (.slice none 0 0) (.slice wA wn wc)).trans hT1
      have hFX := (set11_other (x := w1) (g := Y11.heap.size) (Ne.symm hZF) (.int .i64 1) (.int .i64 1) (.int .i64 0) (.int .i64 0) (.int .i64 0) (.int .i64 0) (.int .i64 0) (.int .i64 0) (.bool false) (.slice none 0 0) (.slice wA wn wc)).trans hF1
      have hRX := (set11_other (x := w1) (g := Y11.heap.size) (show w.heap.size + 1 ≠ Y11.heap.size by omega) (.int .i64 1) (.int .i64 1) (.int .i64 0) (.int .i64 0) (.int .i64 0) (.int .i64 0) (.int .i64 0) (.int .i64 0) (.bool false) (.slice none 0 0) (.slice wA wn wc)).trans hR1
      have h7X := set11 h7 (.int .i64 1) (.int .i64 1) (.int .i64 0) (.int .i64 0) (.int .i64 0) (.int .i64 0) (.int .i64 0) (.int .i64 0) (.bool false) (.slice none 0 0) (.slice wA wn wc)
      have hGX : w.grownBy (((((((((((w1.setCell ⟨Y11.heap.size, 0, none⟩ (.int .i64 1)).setCell ⟨Y11.heap.size, 1, none⟩ (.int .i64 1)).setCell ⟨Y11.heap.size, 2, none⟩ (.int .i64 0)).setCell ⟨Y11.heap.size, 3, none⟩ (.int .i64 0)).setCell ⟨Y11.heap.size, 4, none⟩ (.int .i64 0)).setCell ⟨Y11.heap.size, 5, none⟩ (.int .i64 0)).setCell ⟨Y11.heap.size, 6, none⟩ (.int .i64 0)).setCell ⟨Y11.heap.size, 7, none⟩ (.int .i64 0)).setCell ⟨Y11.heap.size, 8, none⟩ (.bool false)).setCell ⟨Y11.heap.size, 9, none⟩ (.slice none 0 0)).setCell ⟨Y11.heap.size, 10, none⟩ (.slice wA wn wc)) (some T) := grown_set11 ((hGY11.trans (grown_below (below_new Y11 callZ) T)).trans (grown_drew hg1)) (by omega) _ _ _ _ _ _ _ _ _ _ _
      generalize ((((((((((w1.setCell ⟨Y11.heap.size, 0, none⟩ (.int .i64 1)).setCell ⟨Y11.heap.size, 1, none⟩ (.int .i64 1)).setCell ⟨Y11.heap.size, 2, none⟩ (.int .i64 0)).setCell ⟨Y11.heap.size, 3, none⟩ (.int .i64 0)).setCell ⟨Y11.heap.size, 4, none⟩ (.int .i64 0)).setCell ⟨Y11.heap.size, 5, none⟩ (.int .i64 0)).setCell ⟨Y11.heap.size, 6, none⟩ (.int .i64 0)).setCell ⟨Y11.heap.size, 7, none⟩ (.int .i64 0)).setCell ⟨Y11.heap.size, 8, none⟩ (.bool false)).setCell ⟨Y11.heap.size, 9, none⟩ (.slice none 0 0)).setCell ⟨Y11.heap.size, 10, none⟩ (.slice wA wn wc) = X at *
      have hb7 : w.heap.size + 1 < Y11.heap.size := hsz
      generalize Y11.heap.size = b7 at *
      obtain ⟨t0, t1, t2, t3, t4, t5, t6, t7, t8, t9, t10, t11, t12, t13, t14, t15, tf⟩ := cells16 hTX
      obtain ⟨r0, r1, r2, r3, r4, r5, r6, r7, r8, r9, r10, rf⟩ := cells11 hRX
      obtain ⟨k0, k1, k2, k3, k4, k5, k6, k7, k8, k9, k10, kf⟩ := cells11 h7X
      have hn115 : ¬ w.heap.size + 1 = T := by omega
      have hn116 : ¬ T = w.heap.size + 1 := by omega
      have hn117 : ¬ b7 = T := by omega
      have hn118 : ¬ T = b7 := by omega
      have hn119 : ¬ b7 = w.heap.size + 1 := by omega
      have hn120 : ¬ w.heap.size + 1 = b7 := by omega
      have hs := heap_setCell_same X T 4 _ 88 (.int .i64 1) hTX
      have hTW : (X.setCell ⟨T, 4, none⟩ (.int .i64 1)).heap[T]? = some (taskB 1 0 (.slice (some ⟨F, 0, none⟩) 3 3) 1 (.slice (some ⟨O, 0, none⟩) 0 0) .nilFunc mode source hold flags epoch) := by simpa using hs
      have hGW := grown_cell hGX T 4 (.int .i64 1) (.inl rfl)
      go_wp2
      have hFW := (Below.heap_setCell X ⟨T, 4, none⟩ (.int .i64 1) F (Ne.symm hTF)).trans hFX
      have hRW := (Below.heap_setCell X ⟨T, 4, none⟩ (.int .i64 1) (w.heap.size + 1) (show w.heap.size + 1 ≠ T by omega)).trans hRX
      go_step3
      refine ⟨rfl, ?_⟩
      rw [HJ.out]
      exact ⟨frame_v T w.heap.size (w.heap.size + 1) _ _ _ _ _ _ _ _ _ _ _ _ _ _ _ _ _ _ _ _ _ _ _ _ _ _ _ _ _ _ _ _ _ _ _ _ _ _ _ _ _ _ _ _ _ _ _ _ _ _ _ _ _ _ _ _ _ _ _ _ _ _ _ _ _ _ _ _ _ _ _ _ _ _ _ _ _ _ _ _ _ _ _ _ _ _ _ _ _ _ _ _ _ _ _ _ _ _ _, .inl hTW, hFW, hRW, hGW⟩
  · clear t0 t1 t2 t3 t4 t5 t6 t7 t8 t9 t10 t11 t12 t13 t14 t15 tf hTY hFY hRY hGY
    intro a' Y hj
    rw [HJ.out] at hj
    obtain ⟨⟨v, rfl⟩, hTY, hFY, hRY, hGY⟩ := hj
    rcases hTY with hTY | hTY
    ·
      have hT0 := hTY
      obtain ⟨t0, t1, t2, t3, t4, t5, t6, t7, t8, t9, t10, t11, t12, t13, t14, t15, tf⟩ := cells16 hTY
      go_wp2_with fail
      go_quiet (fail)
      have hTY1 : (Y.drewN nq).heap[T]? = _ := hTY
      have hFY1 : (Y.drewN nq).heap[F]? = _ := hFY
      have hRY1 : (Y.drewN nq).heap[w.heap.size + 1]? = _ := hRY
      have hGY1 : w.grownBy (Y.drewN nq) (some T) := grown_drewN hGY nq
      generalize Y.drewN nq = Y1 at *
      clear t0 t1 t2 t3 t4 t5 t6 t7 t8 t9 t10 t11 t12 t13 t14 t15 tf
      clear hTY hFY hRY hGY
      obtain ⟨t0, t1, t2, t3, t4, t5, t6, t7, t8, t9, t10, t11, t12, t13, t14, t15, tf⟩ := cells16 hTY1
      go_wp2_with fail
      go_quiet (fail)
      have hTY11 : (Y1.drewN nq).heap[T]? = _ := hTY1
      have hFY11 : (Y1.drewN nq).heap[F]? = _ := hFY1
      have hRY11 : (Y1.drewN nq).heap[w.heap.size + 1]? = _ := hRY1
      have hGY11 : w.grownBy (Y1.drewN nq) (some T) := grown_drewN hGY1 nq
      generalize Y1.drewN nq = Y11 at *
      clear t0 t1 t2 t3 t4 t5 t6 t7 t8 t9 t10 t11 t12 t13 t14 t15 tf
      clear hTY1 hFY1 hRY1 hGY1
      obtain ⟨t0, t1, t2, t3, t4, t5, t6, t7, t8, t9, t10, t11, t12, t13, t14, t15, tf⟩ := cells16 hTY11
      go_wp2_with fail
      clear t0 t1 t2 t3 t4 t5 t6 t7 t8 t9 t10 t11 t12 t13 t14 t15 tf
      have hS0 : SF T F 1 (.slice (some ⟨F, 0, none⟩) 3 3) (.int .i64 1) (stepV 23 T) Y11 := ⟨cell_of hTY11 3, cell_of hTY11 4, cell_of hFY11 1⟩
      have hTZl := block_lt hTY11
      have hFZl := block_lt hFY11
      have hS0d : SF T F 1 (.slice (some ⟨F, 0, none⟩) 3 3) (.int .i64 1) (stepV 23 T) Y11.drew := hS0
      have hS0a : SF T F 1 (.slice (some ⟨F, 0, none⟩) 3 3) (.int .i64 1) (stepV 23 T) (Y11.alloc callZ).drew := SF_alloc hS0 _
      have hTd : Y11.drew.heap[T]? = some (taskB 1 0 (.slice (some ⟨F, 0, none⟩) 3 3) 1 (.slice (some ⟨O, 0, none⟩) 0 0) .nilFunc mode source hold flags epoch) := hTY11
      have hTa : (Y11.alloc callZ).drew.heap[T]? = some (taskB 1 0 (.slice (some ⟨F, 0, none⟩) 3 3) 1 (.slice (some ⟨O, 0, none⟩) 0 0) .nilFunc mode source hold flags epoch) := alloc_stays Y11 callZ _ _ hTY11
      have hTd0 : Y11.drew.cell? ⟨T, 0, none⟩ = some nilS := cell_of hTd 0
      have hTa0 : (Y11.alloc callZ).drew.cell? ⟨T, 0, none⟩ = some nilS := cell_of hTa 0
      have hFd : Y11.drew.cell? ⟨F, 1, none⟩ = some (stepV 23 T) := hS0.2.2
      have hFa : (Y11.alloc callZ).drew.cell? ⟨F, 1, none⟩ = some (stepV 23 T) := (SF_alloc hS0 callZ).2.2
      have h7a : (Y11.alloc callZ).drew.heap[Y11.heap.size]? = some callZ := heap_alloc_new Y11 callZ
      have hZT : Y11.heap.size ≠ T := by omega
      have hZF : Y11.heap.size ≠ F := by omega
      go_region_held3 (fun w' => w'.cell? ⟨T, 3, none⟩ = some (.slice (some ⟨F, 0, none⟩) 3 3) ∧ w'.cell? ⟨T, 4, none⟩ = some (.int .i64 1) ∧ w'.cell? ⟨F, 1, none⟩ = some (stepV 23 T))
        (first | with_reducible assumption | with_reducible exact hS0 | with_reducible exact hS0d | with_reducible exact hS1 | with_reducible exact SF_alloc hS1 _ | with_reducible exact hS0a | with_reducible exact SF_set (SF_set (SF_set (SF_set (SF_set (SF_set (SF_set (SF_set (SF_set (SF_set (SF_set hS1 _ _ _ hZT hZF) _ _ _ hZT hZF) _ _ _ hZT hZF) _ _ _ hZT hZF) _ _ _ hZT hZF) _ _ _ hZT hZF) _ _ _ hZT hZF) _ _ _ hZT hZF) _ _ _ hZT hZF) _ _ _ hZT hZF) _ _ _ hZT hZF)
        (first | (go_at_call 23; refine (command_nil T _ (by first | with_reducible exact hTd0 | with_reducible exact hTa0)).mono ?_; rintro e w1 ⟨rfl, hb1⟩; have hT1 : w1.heap[T]? = some (taskB 1 0 (.slice (some ⟨F, 0, none⟩) 3 3) 1 (.slice (some ⟨O, 0, none⟩) 0 0) .nilFunc mode source hold flags epoch) := (hb1.block T (by simp; omega)).trans (by first | with_reducible exact hTd | with_reducible exact hTa); have hg1 := grown_below hb1 T; have hS1 : SF T F 1 (.slice (some ⟨F, 0, none⟩) 3 3) (.int .i64 1) (stepV 23 T) w1 := ⟨cell_of hT1 3, cell_of hT1 4, (World.cell?_of_block (hg1.block F (by simp; omega) (fun e => hTF (Option.some.inj e).symm))).trans (by first | with_reducible exact hFd | with_reducible exact hFa)⟩; try (have h7 := (hg1.block Y11.heap.size (by simp) (fun e => by have := Option.some.inj e; omega)).trans h7a; obtain ⟨d0, d1, d2, d3, d4, d5, d6, d7, d8, d9, d10, df⟩ := cells11 h7)))
      all_goals clear hS0 hS0d hS0a hTd hTa hFd hFa hS1 hTd0 hTa0
      ·
        have hsz : w.heap.size + 1 < Y11.heap.size := block_lt hRY11
        have hw1s := hg1.size
        have hR1 := (hg1.block (w.heap.size + 1) (by simp; omega) (fun e => by have := Option.some.inj e; omega)).trans hRY11
        have hF1 := (hg1.block F (by simp; omega) (fun e => hTF (Option.some.inj e).symm)).trans hFY11
        rw [show Y11.drew.heap.size = Y11.heap.size from rfl] at hw1s
        have hTX := alloc_stays w1 (.cells #[.int .i64 7, .int .i64 0, .int .i64 0, .int .i64 0, .int .i64 0, .int .i64 2, .int .i64 0, .int .i64 0, .bool false, .slice none 0 0, .slice none 0 0] 48) _ _ hT1
        have hRX := alloc_stays w1 (.cells #[.int .i64 7, .int .i64 0, .int .i64 0, .int .i64 0, .int .i64 0, .int .i64 2, .int .i64 0, .int .i64 0, .bool false, .slice none 0 0, .slice none 0 0] 48) _ _ hR1
        have hFX := alloc_stays w1 (.cells #[.int .i64 7, .int .i64 0, .int .i64 0, .int .i64 0, .int .i64 0, .int .i64 2, .int .i64 0, .int .i64 0, .bool false, .slice none 0 0, .slice none 0 0] 48) _ _ hF1
        have h7X := heap_alloc_new w1 (.cells #[.int .i64 7, .int .i64 0, .int .i64 0, .int .i64 0, .int .i64 0, .int .i64 2, .int .i64 0, .int .i64 0, .bool false, .slice none 0 0, .slice none 0 0] 48)
        have hGX : w.grownBy (w1.alloc (.cells #[.int .i64 7, .int .i64 0, .int .i64 0, .int .i64 0, .int .i64 0, .int .i64 2, .int .i64 0, .int .i64 0, .bool false, .slice none 0 0, .slice none 0 0] 48)) (some T) := (hGY11.trans (grown_drew hg1)).trans (grown_below (below_new w1 _) T)
        have hb7 : w.heap.size + 1 < w1.heap.size := by omega
        generalize w1.alloc (.cells #[.int .i64 7, .int .i64 0, .int .i64 0, .int .i64 0, .int .i64 0, .int .i64 2, .int .i64 0, .int .i64 0, .bool false, .slice none 0 0, .slice none 0 0] 48) = X at *
        generalize w1.heap.size = b7 at *
        obtain ⟨t0, t1, t2, t3, t4, t5, t6, t7, t8, t9, t10, t11, t12, t13, t14, t15, tf⟩ := cells16 hTX
        obtain ⟨r0, r1, r2, r3, r4, r5, r6, r7, r8, r9, r10, rf⟩ := cells11 hRX
        obtain ⟨k0, k1, k2, k3, k4, k5, k6, k7, k8, k9, k10, kf⟩ := cells11 h7X
        have hn196 : ¬ w.heap.size + 1 = T := by omega
        have hn197 : ¬ T = w.heap.size + 1 := by omega
        have hn198 : ¬ b7 = T := by omega
        have hn199 : ¬ T = b7 := by omega
        have hn200 : ¬ b7 = w.heap.size + 1 := by omega
        have hn201 : ¬ w.heap.size + 1 = b7 := by omega
        have hs := heap_setCell_same X T 4 _ 88 (.int .i64 2) hTX
        have hTW : (X.setCell ⟨T, 4, none⟩ (.int .i64 2)).heap[T]? = some (taskB 1 0 (.slice (some ⟨F, 0, none⟩) 3 3) 2 (.slice (some ⟨O, 0, none⟩) 0 0) .nilFunc mode source hold flags epoch) := by simpa using hs
        have hGW := grown_cell hGX T 4 (.int .i64 2) (.inl rfl)
        go_wp2
        have hFW := (Below.heap_setCell X ⟨T, 4, none⟩ (.int .i64 2) F (Ne.symm hTF)).trans hFX
        have hRW := (Below.heap_setCell X ⟨T, 4, none⟩ (.int .i64 2) (w.heap.size + 1) (show w.heap.size + 1 ≠ T by omega)).trans hRX
        go_step3
        refine ⟨rfl, ?_, ?_⟩
        · rw [HJ.out]
          exact ⟨frame_v T w.heap.size (w.heap.size + 1) _ _ _ _ _ _ _ _ _ _ _ _ _ _ _ _ _ _ _ _ _ _ _ _ _ _ _ _ _ _ _ _ _ _ _ _ _ _ _ _ _ _ _ _ _ _ _ _ _ _ _ _ _ _ _ _ _ _ _ _ _ _ _ _ _ _ _ _ _ _ _ _ _ _ _ _ _ _ _ _ _ _ _ _ _ _ _ _ _ _ _ _ _ _ _ _ _ _ _, .inr hTW, hFW, hRW, hGW⟩
        · rw [HM.out]
          have q1 : _ = some (Value.int .i64 2) := cell_of hTW 4
          have q2 : _ = some (Value.int .i64 1) := cell_of hT0 4
          simp only [q1, q2]
          decide
      ·
        have hsz : w.heap.size + 1 < Y11.heap.size := block_lt hRY11
        have hw1s := hg1.size
        have hR1 := (hg1.block (w.heap.size + 1) (by simp; omega) (fun e => by have := Option.some.inj e; omega)).trans (alloc_stays Y11 callZ _ _ hRY11)
        have hF1 := (hg1.block F (by simp; omega) (fun e => hTF (Option.some.inj e).symm)).trans (alloc_stays Y11 callZ _ _ hFY11)
        have hw1s' : Y11.heap.size + 1 ≤ w1.heap.size := by have h : (Y11.alloc callZ).drew.heap.size = Y11.heap.size + 1 := (by simp); rw [h] at hw1s; exact hw1s
        have hTX := (set11_other (x := w1) (g := Y11.heap.size) (Ne.symm hZT) (.int .i64 7) (.int .i64 0) (.int .i64 0) (.int .i64 0) (.int .i64 0) (.int .i64 2) (.int .i64 0) (.int .i64 0) (.bool false) (.slice none 0 0) (.slice none 0 0)).trans hT1
        have hFX := (set11_other (x := w1) (g := Y11.heap.size) (Ne.symm hZF) (.int .i64 7) (.int .i64 0) (.int .i64 0) (.int .i64 0) (.int .i64 0) (.int .i64 2) (.int .i64 0) (.int .i64 0) (.bool false) (.slice none 0 0) (.slice none 0 0)).trans hF1
        have hRX := (set11_other (x := w1) (g := Y11.heap.size) (show w.heap.size + 1 ≠ Y11.heap.size by omega) (.int .i64 7) (.int .i64 0) (.int .i64 0) (.int .i64 0) (.int .i64 0) (.int .i64 2) (.int .i64 0) (.int .i64 0) (.bool false) (.slice none 0 0) (.slice none 0 0)).trans hR1
        have h7X := set11 h7 (.int .i64 7) (.int .i64 0) (.int .i64 0) (.int .i64 0) (.int .i64 0) (.int .i64 2) (.int .i64 0) (.int .i64 0) (.bool false) (.slice none 0 0) (.slice none 0 0)
        have hGX : w.grownBy (((((((((((w1.setCell ⟨Y11.heap.size, 0, none⟩ (.int .i64 7)).setCell ⟨Y11.heap.size, 1, none⟩ (.int .i64 0)).setCell ⟨Y11.heap.size, 2, none⟩ (.int .i64 0)).setCell ⟨Y11.heap.size, 3, none⟩ (.int .i64 0)).setCell ⟨Y11.heap.size, 4, none⟩ (.int .i64 0)).setCell ⟨Y11.heap.size, 5, none⟩ (.int .i64 2)).setCell ⟨Y11.heap.size, 6, none⟩ (.int .i64 0)).setCell ⟨Y11.heap.size, 7, none⟩ (.int .i64 0)).setCell ⟨Y11.heap.size, 8, none⟩ (.bool false)).setCell ⟨Y11.heap.size, 9, none⟩ (.slice none 0 0)).setCell ⟨Y11.heap.size, 10, none⟩ (.slice none 0 0)) (some T) := grown_set11 ((hGY11.trans (grown_below (below_new Y11 callZ) T)).trans (grown_drew hg1)) (by omega) _ _ _ _ _ _ _ _ _ _ _
        generalize ((((((((((w1.setCell ⟨Y11.heap.size, 0, none⟩ (.int .i64 7)).setCell ⟨Y11.heap.size, 1, none⟩ (.int .i64 0)).setCell ⟨Y11.heap.size, 2, none⟩ (.int .i64 0)).setCell ⟨Y11.heap.size, 3, none⟩ (.int .i64 0)).setCell ⟨Y11.heap.size, 4, none⟩ (.int .i64 0)).setCell ⟨Y11.heap.size, 5, none⟩ (.int .i64 2)).setCell ⟨Y11.heap.size, 6, none⟩ (.int .i64 0)).setCell ⟨Y11.heap.size, 7, none⟩ (.int .i64 0)).setCell ⟨Y11.heap.size, 8, none⟩ (.bool false)).setCell ⟨Y11.heap.size, 9, none⟩ (.slice none 0 0)).setCell ⟨Y11.heap.size, 10, none⟩ (.slice none 0 0) = X at *
        have hb7 : w.heap.size + 1 < Y11.heap.size := hsz
        generalize Y11.heap.size = b7 at *
        obtain ⟨t0, t1, t2, t3, t4, t5, t6, t7, t8, t9, t10, t11, t12, t13, t14, t15, tf⟩ := cells16 hTX
        obtain ⟨r0, r1, r2, r3, r4, r5, r6, r7, r8, r9, r10, rf⟩ := cells11 hRX
        obtain ⟨k0, k1, k2, k3, k4, k5, k6, k7, k8, k9, k10, kf⟩ := cells11 h7X
        have hn234 : ¬ w.heap.size + 1 = T := by omega
        have hn235 : ¬ T = w.heap.size + 1 := by omega
        have hn236 : ¬ b7 = T := by omega
        have hn237 : ¬ T = b7 := by omega
        have hn238 : ¬ b7 = w.heap.size + 1 := by omega
        have hn239 : ¬ w.heap.size + 1 = b7 := by omega
        have hs := heap_setCell_same X T 4 _ 88 (.int .i64 2) hTX
        have hTW : (X.setCell ⟨T, 4, none⟩ (.int .i64 2)).heap[T]? = some (taskB 1 0 (.slice (some ⟨F, 0, none⟩) 3 3) 2 (.slice (some ⟨O, 0, none⟩) 0 0) .nilFunc mode source hold flags epoch) := by simpa using hs
        have hGW := grown_cell hGX T 4 (.int .i64 2) (.inl rfl)
        go_wp2
        have hFW := (Below.heap_setCell X ⟨T, 4, none⟩ (.int .i64 2) F (Ne.symm hTF)).trans hFX
        have hRW := (Below.heap_setCell X ⟨T, 4, none⟩ (.int .i64 2) (w.heap.size + 1) (show w.heap.size + 1 ≠ T by omega)).trans hRX
        go_step3
        refine ⟨rfl, ?_, ?_⟩
        · rw [HJ.out]
          exact ⟨frame_v T w.heap.size (w.heap.size + 1) _ _ _ _ _ _ _ _ _ _ _ _ _ _ _ _ _ _ _ _ _ _ _ _ _ _ _ _ _ _ _ _ _ _ _ _ _ _ _ _ _ _ _ _ _ _ _ _ _ _ _ _ _ _ _ _ _ _ _ _ _ _ _ _ _ _ _ _ _ _ _ _ _ _ _ _ _ _ _ _ _ _ _ _ _ _ _ _ _ _ _ _ _ _ _ _ _ _ _, .inr hTW, hFW, hRW, hGW⟩
        · rw [HM.out]
          have q1 : _ = some (Value.int .i64 2) := cell_of hTW 4
          have q2 : _ = some (Value.int .i64 1) := cell_of hT0 4
          simp only [q1, q2]
          decide
    ·
      clear HJ HM
      obtain ⟨t0, t1, t2, t3, t4, t5, t6, t7, t8, t9, t10, t11, t12, t13, t14, t15, tf⟩ := cells16 hTY
      go_wp2_with fail
      go_quiet (fail)
      have hTY1 : (Y.drewN nq).heap[T]? = _ := hTY
      have hFY1 : (Y.drewN nq).heap[F]? = _ := hFY
      have hRY1 : (Y.drewN nq).heap[w.heap.size + 1]? = _ := hRY
      have hGY1 : w.grownBy (Y.drewN nq) (some T) := grown_drewN hGY nq
      generalize Y.drewN nq = Y1 at *
      clear t0 t1 t2 t3 t4 t5 t6 t7 t8 t9 t10 t11 t12 t13 t14 t15 tf
      clear hTY hFY hRY hGY
      obtain ⟨t0, t1, t2, t3, t4, t5, t6, t7, t8, t9, t10, t11, t12, t13, t14, t15, tf⟩ := cells16 hTY1
      go_wp2_with fail
      go_quiet (fail)
      have hTY11 : (Y1.drewN nq).heap[T]? = _ := hTY1
      have hFY11 : (Y1.drewN nq).heap[F]? = _ := hFY1
      have hRY11 : (Y1.drewN nq).heap[w.heap.size + 1]? = _ := hRY1
      have hGY11 : w.grownBy (Y1.drewN nq) (some T) := grown_drewN hGY1 nq
      generalize Y1.drewN nq = Y11 at *
      clear t0 t1 t2 t3 t4 t5 t6 t7 t8 t9 t10 t11 t12 t13 t14 t15 tf
      clear hTY1 hFY1 hRY1 hGY1
      obtain ⟨t0, t1, t2, t3, t4, t5, t6, t7, t8, t9, t10, t11, t12, t13, t14, t15, tf⟩ := cells16 hTY11
      go_wp2_with fail
      clear t0 t1 t2 t3 t4 t5 t6 t7 t8 t9 t10 t11 t12 t13 t14 t15 tf
      have hS0 : SF T F 2 (.slice (some ⟨F, 0, none⟩) 3 3) (.int .i64 2) (stepV 24 T) Y11 := ⟨cell_of hTY11 3, cell_of hTY11 4, cell_of hFY11 2⟩
      have hTZl := block_lt hTY11
      have hFZl := block_lt hFY11
      have hS0d : SF T F 2 (.slice (some ⟨F, 0, none⟩) 3 3) (.int .i64 2) (stepV 24 T) Y11.drew := hS0
      have hS0a : SF T F 2 (.slice (some ⟨F, 0, none⟩) 3 3) (.int .i64 2) (stepV 24 T) (Y11.alloc callZ).drew := SF_alloc hS0 _
      have hTd : Y11.drew.heap[T]? = some (taskB 1 0 (.slice (some ⟨F, 0, none⟩) 3 3) 2 (.slice (some ⟨O, 0, none⟩) 0 0) .nilFunc mode source hold flags epoch) := hTY11
      have hTa : (Y11.alloc callZ).drew.heap[T]? = some (taskB 1 0 (.slice (some ⟨F, 0, none⟩) 3 3) 2 (.slice (some ⟨O, 0, none⟩) 0 0) .nilFunc mode source hold flags epoch) := alloc_stays Y11 callZ _ _ hTY11
      have hTd0 : Y11.drew.cell? ⟨T, 0, none⟩ = some nilS := cell_of hTd 0
      have hTa0 : (Y11.alloc callZ).drew.cell? ⟨T, 0, none⟩ = some nilS := cell_of hTa 0
      have hFd : Y11.drew.cell? ⟨F, 2, none⟩ = some (stepV 24 T) := hS0.2.2
      have hFa : (Y11.alloc callZ).drew.cell? ⟨F, 2, none⟩ = some (stepV 24 T) := (SF_alloc hS0 callZ).2.2
      have h7a : (Y11.alloc callZ).drew.heap[Y11.heap.size]? = some callZ := heap_alloc_new Y11 callZ
      have hZT : Y11.heap.size ≠ T := by omega
      have hZF : Y11.heap.size ≠ F := by omega
      go_region_held3 (fun w' => w'.cell? ⟨T, 3, none⟩ = some (.slice (some ⟨F, 0, none⟩) 3 3) ∧ w'.cell? ⟨T, 4, none⟩ = some (.int .i64 2) ∧ w'.cell? ⟨F, 2, none⟩ = some (stepV 24 T))
        (first | with_reducible assumption | with_reducible exact hS0 | with_reducible exact hS0d | with_reducible exact hS1 | with_reducible exact SF_alloc hS1 _ | with_reducible exact hS0a | with_reducible exact SF_set (SF_set (SF_set (SF_set (SF_set (SF_set (SF_set (SF_set (SF_set (SF_set (SF_set hS1 _ _ _ hZT hZF) _ _ _ hZT hZF) _ _ _ hZT hZF) _ _ _ hZT hZF) _ _ _ hZT hZF) _ _ _ hZT hZF) _ _ _ hZT hZF) _ _ _ hZT hZF) _ _ _ hZT hZF) _ _ _ hZT hZF) _ _ _ hZT hZF)
        (first | (go_at_call 24; refine (tlook_any T 1 0 (.slice (some ⟨F, 0, none⟩) 3 3) 2 (.slice (some ⟨O, 0, none⟩) 0 0) .nilFunc mode source hold flags epoch _ (by first | with_reducible exact hTd | with_reducible exact hTa)).mono ?_; rintro e w1 ⟨rfl, hT1, hB1, hg1⟩; have hS1 : SF T F 2 (.slice (some ⟨F, 0, none⟩) 3 3) (.int .i64 2) (stepV 24 T) w1 := ⟨cell_of hT1 3, cell_of hT1 4, (World.cell?_of_block (hg1.block F (by simp; omega) (fun e => hTF (Option.some.inj e).symm))).trans (by first | with_reducible exact hFd | with_reducible exact hFa)⟩; try (have h7 := (hg1.block Y11.heap.size (by simp) (fun e => by have := Option.some.inj e; omega)).trans h7a; obtain ⟨d0, d1, d2, d3, d4, d5, d6, d7, d8, d9, d10, df⟩ := cells11 h7)))
      all_goals clear hS0 hS0d hS0a hTd hTa hFd hFa hS1 hTd0 hTa0
      ·
        have hsz : w.heap.size + 1 < Y11.heap.size := block_lt hRY11
        have hw1s := hg1.size
        have hR1 := (hg1.block (w.heap.size + 1) (by simp; omega) (fun e => by have := Option.some.inj e; omega)).trans hRY11
        have hF1 := (hg1.block F (by simp; omega) (fun e => hTF (Option.some.inj e).symm)).trans hFY11
        rw [show Y11.drew.heap.size = Y11.heap.size from rfl] at hw1s
        have hTX := alloc_stays w1 (.cells #[.int .i64 9, .int .i64 0, .int .i64 0, .int .i64 0, .int .i64 0, .int .i64 0, .int .i64 0, .int .i64 0, .bool false, .slice none 0 0, .slice none 0 0] 48) _ _ hT1
        have hRX := alloc_stays w1 (.cells #[.int .i64 9, .int .i64 0, .int .i64 0, .int .i64 0, .int .i64 0, .int .i64 0, .int .i64 0, .int .i64 0, .bool false, .slice none 0 0, .slice none 0 0] 48) _ _ hR1
        have hFX := alloc_stays w1 (.cells #[.int .i64 9, .int .i64 0, .int .i64 0, .int .i64 0, .int .i64 0, .int .i64 0, .int .i64 0, .int .i64 0, .bool false, .slice none 0 0, .slice none 0 0] 48) _ _ hF1
        have h7X := heap_alloc_new w1 (.cells #[.int .i64 9, .int .i64 0, .int .i64 0, .int .i64 0, .int .i64 0, .int .i64 0, .int .i64 0, .int .i64 0, .bool false, .slice none 0 0, .slice none 0 0] 48)
        have hGX : w.grownBy (w1.alloc (.cells #[.int .i64 9, .int .i64 0, .int .i64 0, .int .i64 0, .int .i64 0, .int .i64 0, .int .i64 0, .int .i64 0, .bool false, .slice none 0 0, .slice none 0 0] 48)) (some T) := (hGY11.trans (grown_drew hg1)).trans (grown_below (below_new w1 _) T)
        have hBX := alloc_stays w1 (.cells #[.int .i64 9, .int .i64 0, .int .i64 0, .int .i64 0, .int .i64 0, .int .i64 0, .int .i64 0, .int .i64 0, .bool false, .slice none 0 0, .slice none 0 0] 48) _ _ hB1
        have hb7 : w.heap.size + 1 < w1.heap.size := by omega
        generalize w1.alloc (.cells #[.int .i64 9, .int .i64 0, .int .i64 0, .int .i64 0, .int .i64 0, .int .i64 0, .int .i64 0, .int .i64 0, .bool false, .slice none 0 0, .slice none 0 0] 48) = X at *
        generalize w1.heap.size = b7 at *
        have hBs : w.heap.size + 1 < Y11.drew.heap.size := hsz
        generalize Y11.drew.heap.size = B at *
        obtain ⟨t0, t1, t2, t3, t4, t5, t6, t7, t8, t9, t10, t11, t12, t13, t14, t15, tf⟩ := cells16 hTX
        obtain ⟨r0, r1, r2, r3, r4, r5, r6, r7, r8, r9, r10, rf⟩ := cells11 hRX
        obtain ⟨k0, k1, k2, k3, k4, k5, k6, k7, k8, k9, k10, kf⟩ := cells11 h7X
        have hn318 : ¬ w.heap.size + 1 = T := by omega
        have hn319 : ¬ T = w.heap.size + 1 := by omega
        have hn320 : ¬ b7 = T := by omega
        have hn321 : ¬ T = b7 := by omega
        have hn322 : ¬ b7 = w.heap.size + 1 := by omega
        have hn323 : ¬ w.heap.size + 1 = b7 := by omega
        have hs := heap_setCell_same X T 4 _ 88 (.int .i64 3) hTX
        have hTW : (X.setCell ⟨T, 4, none⟩ (.int .i64 3)).heap[T]? = some (taskB 1 0 (.slice (some ⟨F, 0, none⟩) 3 3) 3 (.slice (some ⟨O, 0, none⟩) 0 0) (.func (.func 55) #[] #[.pointer (some ⟨B, 0, none⟩)]) mode source hold flags epoch) := by simpa using hs
        have hGW := grown_cell hGX T 4 (.int .i64 3) (.inl rfl)
        go_wp2
        try simp only [Exit.jump]
        try rw [Exit.noGoto_ret]
        have hresl : Tryz.f10.results = #[.cell 4 48, .tmp 5] := by kernel_rfl
        refine bodyPost_ret (v := .tuple #[.agg #[.int .i64 9, .int .i64 0, .int .i64 0, .int .i64 0, .int .i64 0, .int .i64 0, .int .i64 0, .int .i64 0, .bool false, .slice none 0 0, .slice none 0 0], .bool true]) ?_ rfl ⟨rfl, B, (set11_other (show T ≠ w.heap.size + 1 by omega) _ _ _ _ _ _ _ _ _ _ _).trans hTW, (set11_other (show B ≠ w.heap.size + 1 by omega) _ _ _ _ _ _ _ _ _ _ _).trans ((Below.heap_setCell X ⟨T, 4, none⟩ _ B (show B ≠ T by omega)).trans hBX), by omega, grown_set11 hGW (Nat.le_succ _) _ _ _ _ _ _ _ _ _ _ _⟩
        · simp only [results, hresl]
          go_simp
      ·
        have hsz : w.heap.size + 1 < Y11.heap.size := block_lt hRY11
        have hw1s := hg1.size
        have hR1 := (hg1.block (w.heap.size + 1) (by simp; omega) (fun e => by have := Option.some.inj e; omega)).trans (alloc_stays Y11 callZ _ _ hRY11)
        have hF1 := (hg1.block F (by simp; omega) (fun e => hTF (Option.some.inj e).symm)).trans (alloc_stays Y11 callZ _ _ hFY11)
        have hw1s' : Y11.heap.size + 1 ≤ w1.heap.size := by have h : (Y11.alloc callZ).drew.heap.size = Y11.heap.size + 1 := (by simp); rw [h] at hw1s; exact hw1s
        have hTX := (set11_other (x := w1) (g := Y11.heap.size) (Ne.symm hZT) (.int .i64 9) (.int .i64 0) (.int .i64 0) (.int .i64 0) (.int .i64 0) (.int .i64 0) (.int .i64 0) (.int .i64 0) (.bool false) (.slice none 0 0) (.slice none 0 0)).trans hT1
        have hFX := (set11_other (x := w1) (g := Y11.heap.size) (Ne.symm hZF) (.int .i64 9) (.int .i64 0) (.int .i64 0) (.int .i64 0) (.int .i64 0) (.int .i64 0) (.int .i64 0) (.int .i64 0) (.bool false) (.slice none 0 0) (.slice none 0 0)).trans hF1
        have hRX := (set11_other (x := w1) (g := Y11.heap.size) (show w.heap.size + 1 ≠ Y11.heap.size by omega) (.int .i64 9) (.int .i64 0) (.int .i64 0) (.int .i64 0) (.int .i64 0) (.int .i64 0) (.int .i64 0) (.int .i64 0) (.bool false) (.slice none 0 0) (.slice none 0 0)).trans hR1
        have h7X := set11 h7 (.int .i64 9) (.int .i64 0) (.int .i64 0) (.int .i64 0) (.int .i64 0) (.int .i64 0) (.int .i64 0) (.int .i64 0) (.bool false) (.slice none 0 0) (.slice none 0 0)
        have hGX : w.grownBy (((((((((((w1.setCell ⟨Y11.heap.size, 0, none⟩ (.int .i64 9)).setCell ⟨Y11.heap.size, 1, none⟩ (.int .i64 0)).setCell ⟨Y11.heap.size, 2, none⟩ (.int .i64 0)).setCell ⟨Y11.heap.size, 3, none⟩ (.int .i64 0)).setCell ⟨Y11.heap.size, 4, none⟩ (.int .i64 0)).setCell ⟨Y11.heap.size, 5, none⟩ (.int .i64 0)).setCell ⟨Y11.heap.size, 6, none⟩ (.int .i64 0)).setCell ⟨Y11.heap.size, 7, none⟩ (.int .i64 0)).setCell ⟨Y11.heap.size, 8, none⟩ (.bool false)).setCell ⟨Y11.heap.size, 9, none⟩ (.slice none 0 0)).setCell ⟨Y11.heap.size, 10, none⟩ (.slice none 0 0)) (some T) := grown_set11 ((hGY11.trans (grown_below (below_new Y11 callZ) T)).trans (grown_drew hg1)) (by omega) _ _ _ _ _ _ _ _ _ _ _
        have hB1' : w1.heap[Y11.heap.size + 1]? = some (.cells #[.pointer (some ⟨T, 0, none⟩)] 31) := (by have h : (Y11.alloc callZ).drew.heap.size = Y11.heap.size + 1 := (by simp); rw [h] at hB1; exact hB1)
        have hBX := (set11_other (x := w1) (g := Y11.heap.size) (show Y11.heap.size + 1 ≠ Y11.heap.size by omega) (.int .i64 9) (.int .i64 0) (.int .i64 0) (.int .i64 0) (.int .i64 0) (.int .i64 0) (.int .i64 0) (.int .i64 0) (.bool false) (.slice none 0 0) (.slice none 0 0)).trans hB1'
        rw [show (Y11.alloc callZ).drew.heap.size = Y11.heap.size + 1 by simp] at hTX
        generalize ((((((((((w1.setCell ⟨Y11.heap.size, 0, none⟩ (.int .i64 9)).setCell ⟨Y11.heap.size, 1, none⟩ (.int .i64 0)).setCell ⟨Y11.heap.size, 2, none⟩ (.int .i64 0)).setCell ⟨Y11.heap.size, 3, none⟩ (.int .i64 0)).setCell ⟨Y11.heap.size, 4, none⟩ (.int .i64 0)).setCell ⟨Y11.heap.size, 5, none⟩ (.int .i64 0)).setCell ⟨Y11.heap.size, 6, none⟩ (.int .i64 0)).setCell ⟨Y11.heap.size, 7, none⟩ (.int .i64 0)).setCell ⟨Y11.heap.size, 8, none⟩ (.bool false)).setCell ⟨Y11.heap.size, 9, none⟩ (.slice none 0 0)).setCell ⟨Y11.heap.size, 10, none⟩ (.slice none 0 0) = X at *
        have hBs : w.heap.size + 1 < Y11.heap.size + 1 := by omega
        generalize Y11.heap.size + 1 = B at *
        have hb7 : w.heap.size + 1 < Y11.heap.size := hsz
        generalize Y11.heap.size = b7 at *
        obtain ⟨t0, t1, t2, t3, t4, t5, t6, t7, t8, t9, t10, t11, t12, t13, t14, t15, tf⟩ := cells16 hTX
        obtain ⟨r0, r1, r2, r3, r4, r5, r6, r7, r8, r9, r10, rf⟩ := cells11 hRX
        obtain ⟨k0, k1, k2, k3, k4, k5, k6, k7, k8, k9, k10, kf⟩ := cells11 h7X
        have hn356 : ¬ w.heap.size + 1 = T := by omega
        have hn357 : ¬ T = w.heap.size + 1 := by omega
        have hn358 : ¬ b7 = T := by omega
        have hn359 : ¬ T = b7 := by omega
        have hn360 : ¬ b7 = w.heap.size + 1 := by omega
        have hn361 : ¬ w.heap.size + 1 = b7 := by omega
        have hs := heap_setCell_same X T 4 _ 88 (.int .i64 3) hTX
        have hTW : (X.setCell ⟨T, 4, none⟩ (.int .i64 3)).heap[T]? = some (taskB 1 0 (.slice (some ⟨F, 0, none⟩) 3 3) 3 (.slice (some ⟨O, 0, none⟩) 0 0) (.func (.func 55) #[] #[.pointer (some ⟨B, 0, none⟩)]) mode source hold flags epoch) := by simpa using hs
        have hGW := grown_cell hGX T 4 (.int .i64 3) (.inl rfl)
        go_wp2
        try simp only [Exit.jump]
        try rw [Exit.noGoto_ret]
        have hresl : Tryz.f10.results = #[.cell 4 48, .tmp 5] := by kernel_rfl
        refine bodyPost_ret (v := .tuple #[.agg #[.int .i64 9, .int .i64 0, .int .i64 0, .int .i64 0, .int .i64 0, .int .i64 0, .int .i64 0, .int .i64 0, .bool false, .slice none 0 0, .slice none 0 0], .bool true]) ?_ rfl ⟨rfl, B, (set11_other (show T ≠ w.heap.size + 1 by omega) _ _ _ _ _ _ _ _ _ _ _).trans hTW, (set11_other (show B ≠ w.heap.size + 1 by omega) _ _ _ _ _ _ _ _ _ _ _).trans ((Below.heap_setCell X ⟨T, 4, none⟩ _ B (show B ≠ T by omega)).trans hBX), by omega, grown_set11 hGW (Nat.le_succ _) _ _ _ _ _ _ _ _ _ _ _⟩
        · simp only [results, hresl]
          go_simp

set_option maxRecDepth 100000 in
set_option maxHeartbeats 3200000 in
theorem cm_end (T F B0 : Nat) (mode : Int) (source : Int) (hold : Bool) (flags : Int) (epoch : Int) (O : Nat) (w : World)
    (hT : w.heap[T]? = some (taskB 1 0 (.slice (some ⟨F, 0, none⟩) 3 3) 3 (.slice (some ⟨O, 0, none⟩) 0 0) (.func (.func 55) #[] #[.pointer (some ⟨B0, 0, none⟩)]) mode source hold flags epoch))
    (hF : w.heap[F]? = some (.cells #[stepV 22 T, stepV 23 T, stepV 24 T] 93)) (hTF : T ≠ F) (hB : w.heap[B0]? = some (.cells #[.pointer (some ⟨T, 0, none⟩)] 31)) :
    Calls Tryz.prog 10 #[.pointer (some ⟨T, 0, none⟩), ansV 0 0 0 0 0 0 0 false 0 0 nilS nilS] w fun e w' => e = .returned (.tuple #[callV 0 0 0 0 0 0 0 0 false nilS nilS, .bool false]) ∧ w'.heap[T]? = some (taskB 1 1 (.slice (some ⟨F, 0, none⟩) 3 3) 0 (.slice (some ⟨O, 0, none⟩) 0 0) .nilFunc 0 0 false 0 0) ∧ w.grownBy w' (some T) := by
  have hfn1 := fn_nil
  have hfn2 := fn_some
  have hTl := block_lt hT
  have hFl := block_lt hF
  have hTY := alloc_stays (w.alloc (ansO 0 0 false 0 0)) callZ T _ (alloc_stays w (ansO 0 0 false 0 0) T _ hT)
  have hFY := alloc_stays (w.alloc (ansO 0 0 false 0 0)) callZ F _ (alloc_stays w (ansO 0 0 false 0 0) F _ hF)
  have hBY := alloc_stays (w.alloc (ansO 0 0 false 0 0)) callZ B0 _ (alloc_stays w (ansO 0 0 false 0 0) B0 _ hB)
  have hRY := heap_alloc_new (w.alloc (ansO 0 0 false 0 0)) callZ
  rw [alloc_size] at hRY
  have hGY := grown_below (below_new2 w (ansO 0 0 false 0 0) callZ) T
  obtain ⟨t0, t1, t2, t3, t4, t5, t6, t7, t8, t9, t10, t11, t12, t13, t14, t15, tf⟩ := cells16 hTY
  go_enter Tryz.func10, Tryz.ntmps10
  go_wp2
  obtain ⟨J, hJ⟩ : ∃ J : Act → World → Prop, J = (fun a' w' => (∃ v : Nat → Value, a' = { tmps := #[.pointer (some ⟨T, 0, none⟩), v 1, v 2, .pointer (some ⟨w.heap.size, 0, none⟩), .pointer (some ⟨w.heap.size + 1, 0, none⟩), v 5, v 6, v 7, v 8, v 9, v 10, v 11, v 12, v 13, v 14, v 15, v 16, v 17, v 18, v 19, v 20, v 21, v 22, v 23, v 24, v 25, v 26, v 27, v 28, v 29, v 30, v 31, v 32, v 33, v 34, v 35, v 36, v 37, v 38, v 39, v 40, v 41, v 42, v 43, v 44, v 45, v 46, v 47, v 48, v 49, v 50, v 51, v 52, v 53, v 54, v 55, v 56, v 57, v 58, v 59, v 60, v 61, v 62, v 63, v 64, v 65, v 66, v 67, v 68, v 69, v 70, v 71, v 72, v 73, v 74, v 75, v 76, v 77, v 78, v 79, v 80, v 81, v 82, v 83, v 84, v 85, v 86, v 87, v 88, v 89, v 90, v 91, v 92, v 93, v 94, v 95, v 96, v 97, v 98, v 99, v 100, v 101], defers := [] }) ∧ w'.heap[T]? = some (taskB 1 1 (.slice (some ⟨F, 0, none⟩) 3 3) 0 (.slice (some ⟨O, 0, none⟩) 0 0) .nilFunc 0 0 false 0 0) ∧ w'.heap[F]? = some (.cells #[stepV 22 T, stepV 23 T, stepV 24 T] 93) ∧ w'.heap[w.heap.size + 1]? = some callZ ∧ w.grownBy w' (some T)) := ⟨_, rfl⟩
  have HJ := hide hJ
  clear hJ
  refine wp_scope_jumps 0 J (fun _ _ => 0) rfl ?_ ?_
  ·
    go_wp2_with fail
    have hBl := block_lt hB
    have hAY := alloc_stays (w.alloc (ansO 0 0 false 0 0)) callZ _ _ (heap_alloc_new w (ansO 0 0 false 0 0))
    generalize (w.alloc (ansO 0 0 false 0 0)).alloc callZ = Y at *
    obtain ⟨a0, a1, a2, a3, a4, a5, a6, a7, a8, a9, a10, a11, af⟩ := cells12 hAY
    have hTYl := block_lt hTY
    have hAYl := block_lt hAY
    refine wp_region_ext_tail 5 (by kernel_rfl) (by kernel_rfl) (fun _ _ d _ _ h => by cases d <;> exact h) ?_
    simp only [List.take_succ_cons, List.take_zero, List.drop_succ_cons, List.drop_zero]
    repeat (first
      | go_big_quiet_skip
      | (go_big_quiet_want
         first
           | (apply quiet_val
              · intro wq hq
                have hcq := hq.cells
                have hzq := hq.lift
                go_simp
                try go_bits
                first | done | with_reducible rfl
              (try simp only [Act.put, List.setIfInBounds_toArray, List.set_cons_zero, List.set_cons_succ])
              go_big_quiet_on)))
    refine wpQuiet_nil ?_
    intro W hW
    clear a0 a1 a2 a3 a4 a5 a6 a7 a8 a9 a10 a11 af hAY
    have hTW := (hW.below.block T (block_lt hTY)).trans hTY
    have hFW := (hW.below.block F (block_lt hFY)).trans hFY
    have hRW := (hW.below.block (w.heap.size + 1) (block_lt hRY)).trans hRY
    have hBW := (hW.below.block B0 (block_lt hBY)).trans hBY
    have hGW0 : w.grownBy W (some T) := hGY.trans (grown_below hW.below T)
    clear t0 t1 t2 t3 t4 t5 t6 t7 t8 t9 t10 t11 t12 t13 t14 t15 tf
    clear hTY hFY hRY hBY hGY hW
    obtain ⟨t0, t1, t2, t3, t4, t5, t6, t7, t8, t9, t10, t11, t12, t13, t14, t15, tf⟩ := cells16 hTW
    have hB0c := cell_of hBW 0
    have hTWl := block_lt hTW
    have hBWl := block_lt hBW
    have hsn := fun a (w : World) val h hf => store_nilf a w val h hf
    go_wp2_with go_in
    go_end0
    go_wp2_with fail
    clear hB0c hsn
    clear t0 t1 t2 t3 t4 t5 t6 t7 t8 t9 t10 t11 t12 t13 t14 t15 tf
    have hTY := alloc_stays _ (ansO 0 0 false 0 0) _ _ (hear_set hTW 0 0 false 0 0)
    have hFY := alloc_stays _ (ansO 0 0 false 0 0) _ _ ((hear_other (Ne.symm hTF) 0 0 false 0 0).trans hFW)
    have hRY := alloc_stays _ (ansO 0 0 false 0 0) _ _ ((hear_other (show w.heap.size + 1 ≠ T by omega) 0 0 false 0 0).trans hRW)
    have hGY := (hear_grown hGW0 0 0 false 0 0).trans (grown_below (below_new _ (ansO 0 0 false 0 0)) T)
    generalize ((((((W.setCell ⟨T, 11, none⟩ (.int .i64 0)).setCell ⟨T, 12, none⟩ (.int .i64 0)).setCell ⟨T, 13, none⟩ (.bool false)).setCell ⟨T, 14, none⟩ (.int .i64 0)).setCell ⟨T, 15, none⟩ (.int .u64 0)).setCell ⟨T, 6, none⟩ .nilFunc).alloc (ansO 0 0 false 0 0) = Y at *
    clear hTW hFW hRW hBW hGW0 hTWl hBWl
    go_step3
    obtain ⟨t0, t1, t2, t3, t4, t5, t6, t7, t8, t9, t10, t11, t12, t13, t14, t15, tf⟩ := cells16 hTY
    go_wp2_with fail
    go_quiet (fail)
    have hTY1 : (Y.drewN nq).heap[T]? = _ := hTY
    have hFY1 : (Y.drewN nq).heap[F]? = _ := hFY
    have hRY1 : (Y.drewN nq).heap[w.heap.size + 1]? = _ := hRY
    have hGY1 : w.grownBy (Y.drewN nq) (some T) := grown_drewN hGY nq
    generalize Y.drewN nq = Y1 at *
    clear t0 t1 t2 t3 t4 t5 t6 t7 t8 t9 t10 t11 t12 t13 t14 t15 tf
    clear hTY hFY hRY hGY
    obtain ⟨t0, t1, t2, t3, t4, t5, t6, t7, t8, t9, t10, t11, t12, t13, t14, t15, tf⟩ := cells16 hTY1
    go_wp2_with fail
    go_quiet (fail)
    have hTY11 : (Y1.drewN nq).heap[T]? = _ := hTY1
    have hFY11 : (Y1.drewN nq).heap[F]? = _ := hFY1
    have hRY11 : (Y1.drewN nq).heap[w.heap.size + 1]? = _ := hRY1
    have hGY11 : w.grownBy (Y1.drewN nq) (some T) := grown_drewN hGY1 nq
    generalize Y1.drewN nq = Y11 at *
    clear t0 t1 t2 t3 t4 t5 t6 t7 t8 t9 t10 t11 t12 t13 t14 t15 tf
    clear hTY1 hFY1 hRY1 hGY1
    obtain ⟨t0, t1, t2, t3, t4, t5, t6, t7, t8, t9, t10, t11, t12, t13, t14, t15, tf⟩ := cells16 hTY11
    have hs2 := heap_setCell_same Y11 T 2 _ 88 (.int .i64 1) hTY11
    have hs4 := heap_setCell_same _ T 4 _ 88 (.int .i64 0) hs2
    have hTX : ((Y11.setCell ⟨T, 2, none⟩ (.int .i64 1)).setCell ⟨T, 4, none⟩ (.int .i64 0)).heap[T]? = some (taskB 1 1 (.slice (some ⟨F, 0, none⟩) 3 3) 0 (.slice (some ⟨O, 0, none⟩) 0 0) .nilFunc 0 0 false 0 0) := by simpa using hs4
    have hFX := (Below.heap_setCell (Y11.setCell ⟨T, 2, none⟩ (.int .i64 1)) ⟨T, 4, none⟩ (.int .i64 0) F (Ne.symm hTF)).trans ((Below.heap_setCell Y11 ⟨T, 2, none⟩ (.int .i64 1) F (Ne.symm hTF)).trans hFY11)
    have hRX := (Below.heap_setCell (Y11.setCell ⟨T, 2, none⟩ (.int .i64 1)) ⟨T, 4, none⟩ (.int .i64 0) (w.heap.size + 1) (by simp; omega)).trans ((Below.heap_setCell Y11 ⟨T, 2, none⟩ (.int .i64 1) (w.heap.size + 1) (by simp; omega)).trans hRY11)
    have hGX := grown_cell (grown_cell hGY11 T 2 (.int .i64 1) (.inl rfl)) T 4 (.int .i64 0) (.inl rfl)
    go_wp2
    go_step3
    refine ⟨rfl, ?_⟩
    rw [HJ.out]
    exact ⟨frame_v T w.heap.size (w.heap.size + 1) _ _ _ _ _ _ _ _ _ _ _ _ _ _ _ _ _ _ _ _ _ _ _ _ _ _ _ _ _ _ _ _ _ _ _ _ _ _ _ _ _ _ _ _ _ _ _ _ _ _ _ _ _ _ _ _ _ _ _ _ _ _ _ _ _ _ _ _ _ _ _ _ _ _ _ _ _ _ _ _ _ _ _ _ _ _ _ _ _ _ _ _ _ _ _ _ _ _ _, hTX, hFX, hRX, hGX⟩
  · clear t0 t1 t2 t3 t4 t5 t6 t7 t8 t9 t10 t11 t12 t13 t14 t15 tf hTY hFY hRY hBY hGY
    intro a' Y hj
    rw [HJ.out] at hj
    obtain ⟨⟨v, rfl⟩, hTY, hFY, hRY, hGY⟩ := hj
    clear HJ
    obtain ⟨t0, t1, t2, t3, t4, t5, t6, t7, t8, t9, t10, t11, t12, t13, t14, t15, tf⟩ := cells16 hTY
    go_wp2_with fail
    go_quiet (fail)
    have hTY1 : (Y.drewN nq).heap[T]? = _ := hTY
    have hFY1 : (Y.drewN nq).heap[F]? = _ := hFY
    have hRY1 : (Y.drewN nq).heap[w.heap.size + 1]? = _ := hRY
    have hGY1 : w.grownBy (Y.drewN nq) (some T) := grown_drewN hGY nq
    generalize Y.drewN nq = Y1 at *
    clear t0 t1 t2 t3 t4 t5 t6 t7 t8 t9 t10 t11 t12 t13 t14 t15 tf
    clear hTY hFY hRY hGY
    obtain ⟨t0, t1, t2, t3, t4, t5, t6, t7, t8, t9, t10, t11, t12, t13, t14, t15, tf⟩ := cells16 hTY1
    obtain ⟨r0, r1, r2, r3, r4, r5, r6, r7, r8, r9, r10, rf⟩ := cells11 hRY1
    have hne2 : ¬ T = w.heap.size + 1 := by omega
    go_wp2
    try simp only [Exit.jump]
    try rw [Exit.noGoto_ret]
    have hresl : Tryz.f10.results = #[.cell 4 48, .tmp 5] := by kernel_rfl
    refine bodyPost_ret (v := .tuple #[.agg #[.int .i64 0, .int .i64 0, .int .i64 0, .int .i64 0, .int .i64 0, .int .i64 0, .int .i64 0, .int .i64 0, .bool false, .slice none 0 0, .slice none 0 0], .bool false]) ?_ rfl ⟨rfl, (set11_other hne2 _ _ _ _ _ _ _ _ _ _ _).trans hTY1, grown_set11 hGY1 (Nat.le_succ _) _ _ _ _ _ _ _ _ _ _ _⟩
    · simp only [results, hresl]
      go_simp

end Go.Proofs.YtpilfhjlfbjloaaGreatDoor
