/-
  The walks of the steps of tasks: steer, poll. Conditions: a task's block, its pose and its goal may be. The walk of the step poll. Conditions: a task's block, its orders as a slice has them.
-/
import Derived.Test.YtpilfhjlfbjloaaGreatDoorTkD
import Derived.Test.YtpilfhjlfbjloaaGreatDoorTNextLib
namespace Go.Proofs.YtpilfhjlfbjloaaGreatDoor
open Go.RowKit
attribute [local irreducible] fI

/-- How fast a task steers. -/
def steerA (K : Tk) : Int := if K.mode = 4 then clampI (K.ga - K.pose.ar) else if K.mode = 5 then clampI (0 - K.pose.ar) else 0
def steerB (K : Tk) : Int := if K.mode = 4 then clampI (K.gb - K.pose.ai) else if K.mode = 5 then clampI (0 - K.pose.ai) else 0
theorem clamp_h (d : Int) : H32 (clampI d) := by have := clamp_in d; unfold H32; omega
theorem zero_h : H32 0 := by unfold H32; decide
theorem cI_zero : cI 0 0 = .complex .f64 0 0 := by
  show Value.complex .f64 (fI 0) (fI 0) = _
  rw [fI_zero]
theorem okZ0 : okZ 0 0 = true := by decide

set_option maxRecDepth 100000 in
set_option maxHeartbeats 1600000 in
theorem steer_step (T : Nat) (K : Tk) (ov tb on : Value) (w : World) (hT : w.heap[T]? = some (tkO K ov tb on .nilFunc)) (hp : checkP K.pose = 0) (hg : okZ K.ga K.gb = true) :
    Calls Tryz.prog 26 #[.pointer (some ⟨T, 0, none⟩)] w (StepPost T ov tb on K 1 2 0 0 0 false [wordZ (steerA K) (steerB K)] true 0 w) := by
  have hTl := block_lt hT
  have h1 : H32 (steerA K) := by unfold steerA; (repeat' split); exact clamp_h _; exact clamp_h _; exact zero_h
  have h2 : H32 (steerB K) := by unfold steerB; (repeat' split); exact clamp_h _; exact clamp_h _; exact zero_h
  have HW := hide (fun w => word_any h1 h2 w)
  clear h1 h2
  by_cases hm : K.mode = 4
  · have HS := hide (fun w => steer_any K.pose hp K.ga K.gb hg w)
    rw [show clampI (K.ga - K.pose.ar) = steerA K by unfold steerA; rw [if_pos hm], show clampI (K.gb - K.pose.ai) = steerB K by unfold steerB; rw [if_pos hm]] at HS
    clear hp hg
    have hP := alloc_stays w callZ T _ hT
    have hB := heap_alloc_new w callZ
    have hbw := below_new w callZ
    have hPl := block_lt hP
    obtain ⟨t0, t1, t2, t3, t4, t5, t6, t7, t8, t9, t10, t11, t12, t13, t14, t15, tf⟩ := cells16 hP
    rw [hm] at t11
    go_enter Tryz.func26, Tryz.ntmps26
    go_wp2_with fail
    generalize w.alloc callZ = Y at *
    refine wp_region_ext (by kernel_rfl) (by kernel_rfl) ?_
    repeat (first
      | go_big_quiet_skip
      | (go_big_quiet_want
         first
           | (apply quiet_val
              · intro wq hq
                have hcq := hq.cells
                have hzq := hq.lift
                go_simp
                try go_bits
                first | done | with_reducible rfl
              (try simp only [Act.put, List.setIfInBounds_toArray, List.set_cons_zero, List.set_cons_succ])
              go_big_quiet_on)
           | (apply quiet_call
              · intro wq hq
                have hcq := hq.cells
                have hzq := hq.lift
                go_simp
                first
                  | (go_at_call 58; exact (HS.out _).mono fun e w' hp => ⟨hp.1, hq.call hp.2⟩)
              (try simp only [Act.put, List.setIfInBounds_toArray, List.set_cons_zero, List.set_cons_succ])
              go_big_quiet_on)))
    refine wpQuiet_nil ?_
    intro w1 hz1
    have hb1 := hz1.below
    replace hB := (hb1.block _ (block_lt hB)).trans hB
    replace hbw := below2 hbw hb1
    have hN1 : w.heap.size < w1.heap.size := block_lt hB
    clear t0 t1 t2 t3 t4 t5 t6 t7 t8 t9 t10 t11 t12 t13 t14 t15 tf
    go_wp2_with fail
    refine (HW.out _).mono ?_
    rintro e w2 ⟨g, c, rfl, hrd, hgw, hb2⟩
    replace hB := (hb2.block _ (block_lt hB)).trans hB
    have hbz := below2 hbw hb2
    obtain ⟨r0, r1, r2, r3, r4, r5, r6, r7, r8, r9, r10, rf⟩ := cells11 hB
    have hgN : w.heap.size < g := by first | omega | (simp at hgw; omega)
    go_wp2
    have hresl : Tryz.f26.results = #[.cell 2 48, .tmp 3] := by kernel_rfl
    refine bodyPost_ret (v := .tuple #[callV 1 2 0 0 0 0 0 0 false nilS (.slice (some ⟨g, 0, none⟩) 1 c), .bool true]) ?_ rfl ?_
    · simp only [results, hresl]
      go_simp
    · refine step_same (ws := [wordZ (steerA K) (steerB K)]) hT (show Rd _ _ 1 1 _ from ?_) (fun b h => by cases h; exact Nat.le_of_lt hgN) ?_
      · repeat (first | with_reducible exact hrd | (with_reducible refine Rd.alloc ?_ _) | (with_reducible refine rd_set ?_ ?_; rotate_left; focus (omega)))
      · repeat (first | with_reducible exact hbz | (with_reducible refine Below.alloc ?_ ?_ _; rotate_left; focus (simp; omega)) | (with_reducible refine Below.setCell ?_ ?_ _; rotate_left; focus (exact Nat.le_refl _)))
  · by_cases hm5 : K.mode = 5
    · have HS := hide (fun w => steer_any K.pose hp 0 0 okZ0 w)
      rw [show clampI (0 - K.pose.ar) = steerA K by unfold steerA; rw [if_neg hm, if_pos hm5], show clampI (0 - K.pose.ai) = steerB K by unfold steerB; rw [if_neg hm, if_pos hm5], cI_zero] at HS
      have hm := hm5
      clear hp hg hm5
      have hP := alloc_stays w callZ T _ hT
      obtain ⟨t0, t1, t2, t3, t4, t5, t6, t7, t8, t9, t10, t11, t12, t13, t14, t15, tf⟩ := cells16 hP
      rw [hm] at t11
      go_enter Tryz.func26, Tryz.ntmps26
      go_wp2_with fail
      refine (HS.out _).mono ?_
      rintro e w1 ⟨rfl, hb1⟩
      have hB := (hb1.block w.heap.size (by simp)).trans (heap_alloc_new w callZ)
      have hbw := below2 (below_new w callZ) hb1
      have hN1 : w.heap.size < w1.heap.size := block_lt hB
      clear t0 t1 t2 t3 t4 t5 t6 t7 t8 t9 t10 t11 t12 t13 t14 t15 tf
      go_wp2_with fail
      refine (HW.out _).mono ?_
      rintro e w2 ⟨g, c, rfl, hrd, hgw, hb2⟩
      replace hB := (hb2.block _ (block_lt hB)).trans hB
      have hbz := below2 hbw hb2
      obtain ⟨r0, r1, r2, r3, r4, r5, r6, r7, r8, r9, r10, rf⟩ := cells11 hB
      have hgN : w.heap.size < g := by first | omega | (simp at hgw; omega)
      go_wp2
      have hresl : Tryz.f26.results = #[.cell 2 48, .tmp 3] := by kernel_rfl
      refine bodyPost_ret (v := .tuple #[callV 1 2 0 0 0 0 0 0 false nilS (.slice (some ⟨g, 0, none⟩) 1 c), .bool true]) ?_ rfl ?_
      · simp only [results, hresl]
        go_simp
      · refine step_same (ws := [wordZ (steerA K) (steerB K)]) hT (show Rd _ _ 1 1 _ from ?_) (fun b h => by cases h; exact Nat.le_of_lt hgN) ?_
        · repeat (first | with_reducible exact hrd | (with_reducible refine Rd.alloc ?_ _) | (with_reducible refine rd_set ?_ ?_; rotate_left; focus (omega)))
        · repeat (first | with_reducible exact hbz | (with_reducible refine Below.alloc ?_ ?_ _; rotate_left; focus (simp; omega)) | (with_reducible refine Below.setCell ?_ ?_ _; rotate_left; focus (exact Nat.le_refl _)))
    · rw [show steerA K = 0 by unfold steerA; rw [if_neg hm, if_neg hm5], show steerB K = 0 by unfold steerB; rw [if_neg hm, if_neg hm5]] at HW ⊢
      rw [cI_zero] at HW
      have e4 : (K.mode == 4) = false := by simpa using hm
      have e5 : (K.mode == 5) = false := by simpa using hm5
      have hP := alloc_stays w callZ T _ hT
      obtain ⟨t0, t1, t2, t3, t4, t5, t6, t7, t8, t9, t10, t11, t12, t13, t14, t15, tf⟩ := cells16 hP
      have hB := heap_alloc_new w callZ
      have hbw := below_new w callZ
      clear hp hg
      go_enter Tryz.func26, Tryz.ntmps26
      go_wp2_with fail
      clear t0 t1 t2 t3 t4 t5 t6 t7 t8 t9 t10 t11 t12 t13 t14 t15 tf
      refine (HW.out _).mono ?_
      rintro e w2 ⟨g, c, rfl, hrd, hgw, hb2⟩
      replace hB := (hb2.block _ (block_lt hB)).trans hB
      have hbz := below2 hbw hb2
      obtain ⟨r0, r1, r2, r3, r4, r5, r6, r7, r8, r9, r10, rf⟩ := cells11 hB
      have hgN : w.heap.size < g := by first | omega | (simp at hgw; omega)
      go_wp2
      have hresl : Tryz.f26.results = #[.cell 2 48, .tmp 3] := by kernel_rfl
      refine bodyPost_ret (v := .tuple #[callV 1 2 0 0 0 0 0 0 false nilS (.slice (some ⟨g, 0, none⟩) 1 c), .bool true]) ?_ rfl ?_
      · simp only [results, hresl]
        go_simp
      · refine step_same (ws := [wordZ 0 0]) hT (show Rd _ _ 1 1 _ from ?_) (fun b h => by cases h; exact Nat.le_of_lt hgN) ?_
        · repeat (first | with_reducible exact hrd | (with_reducible refine Rd.alloc ?_ _) | (with_reducible refine rd_set ?_ ?_; rotate_left; focus (omega)))
        · repeat (first | with_reducible exact hbz | (with_reducible refine Below.alloc ?_ ?_ _; rotate_left; focus (simp; omega)) | (with_reducible refine Below.setCell ?_ ?_ _; rotate_left; focus (exact Nat.le_refl _)))

end Go.Proofs.YtpilfhjlfbjloaaGreatDoor

namespace Go.Proofs.YtpilfhjlfbjloaaGreatDoor
open Go.RowKit
attribute [local irreducible] fI

/-- A task with another goal. -/
def Tk.aim (K : Tk) : Tk := match ordS K with
  | some o => { K with ga := o.re, gb := o.im }
  | none => K

theorem grown_alloc {w y : World} {r : Option Nat} (h : w.grownBy y r) (o : Obj) : w.grownBy (y.alloc o) r :=
  ⟨h.os, h.tape, h.output, by have := h.size; simp; omega, fun b hb hne => by
    have h1 : (y.alloc o).heap[b]? = y.heap[b]? := (below_new y o).block b (Nat.lt_of_lt_of_le hb h.size)
    exact h1.trans (h.block b hb hne)⟩
/-- A call's eleven stores behind a step's work, and a block more. -/
theorem eleven_post {T N B : Nat} {w y : World} {K : Tk} {ov tb on hr : Value} (hy : y.heap[T]? = some (tkO K ov tb on hr)) (hB : y.heap[B]? = some (boxO T)) (hg : w.grownBy y (some T)) (hN : w.heap.size ≤ N) (h1 : T ≠ N) (h2 : B ≠ N) (u0 u1 u2 u3 u4 u5 u6 u7 u8 u9 u10 : Value) (o : Obj) :
    (((((((((((((y.setCell ⟨N, 0, none⟩ u0).setCell ⟨N, 1, none⟩ u1).setCell ⟨N, 2, none⟩ u2).setCell ⟨N, 3, none⟩ u3).setCell ⟨N, 4, none⟩ u4).setCell ⟨N, 5, none⟩ u5).setCell ⟨N, 6, none⟩ u6).setCell ⟨N, 7, none⟩ u7).setCell ⟨N, 8, none⟩ u8).setCell ⟨N, 9, none⟩ u9).setCell ⟨N, 10, none⟩ u10).alloc o).heap[T]? = some (tkO K ov tb on hr)) ∧
    (((((((((((((y.setCell ⟨N, 0, none⟩ u0).setCell ⟨N, 1, none⟩ u1).setCell ⟨N, 2, none⟩ u2).setCell ⟨N, 3, none⟩ u3).setCell ⟨N, 4, none⟩ u4).setCell ⟨N, 5, none⟩ u5).setCell ⟨N, 6, none⟩ u6).setCell ⟨N, 7, none⟩ u7).setCell ⟨N, 8, none⟩ u8).setCell ⟨N, 9, none⟩ u9).setCell ⟨N, 10, none⟩ u10).alloc o).heap[B]? = some (boxO T)) ∧
    w.grownBy ((((((((((((y.setCell ⟨N, 0, none⟩ u0).setCell ⟨N, 1, none⟩ u1).setCell ⟨N, 2, none⟩ u2).setCell ⟨N, 3, none⟩ u3).setCell ⟨N, 4, none⟩ u4).setCell ⟨N, 5, none⟩ u5).setCell ⟨N, 6, none⟩ u6).setCell ⟨N, 7, none⟩ u7).setCell ⟨N, 8, none⟩ u8).setCell ⟨N, 9, none⟩ u9).setCell ⟨N, 10, none⟩ u10).alloc o) (some T) :=
  ⟨alloc_stays _ _ _ _ ((set11_other h1 u0 u1 u2 u3 u4 u5 u6 u7 u8 u9 u10).trans hy), alloc_stays _ _ _ _ ((set11_other h2 u0 u1 u2 u3 u4 u5 u6 u7 u8 u9 u10).trans hB), grown_alloc (grown_set11 hg hN u0 u1 u2 u3 u4 u5 u6 u7 u8 u9 u10) o⟩

set_option maxRecDepth 100000 in
set_option maxHeartbeats 1600000 in
theorem poll_any (T : Nat) (K : Tk) (ov tb on : Value) (w : World) (hT : w.heap[T]? = some (tkO K ov tb on .nilFunc)) (hO : Rd w ov 4 K.orders.length (flatO K.orders)) :
    Calls Tryz.prog 25 #[.pointer (some ⟨T, 0, none⟩)] w (StepPost T ov tb on K.aim 5 0 0 0 0 false [] true 3 w) := by
  have hTl := block_lt hT
  have hso := store_last
  obtain ⟨hB, hR⟩ := news2o w (boxO T) callZ
  have hb0 := below_new2 w (boxO T) callZ
  have hT0 := (hb0.block T hTl).trans hT
  have HO := hide (order_at T K ov tb on .nilFunc _ hT0 (hO.below hb0))
  unfold Tk.aim
  cases h : ordS K with
  | none =>
    rw [h] at HO
    rw [ordR_is] at HO
    simp only [ordO, Option.isSome] at HO
    go_enter Tryz.func25, Tryz.ntmps25
    go_wp2_with fail
    refine HO.out.mono ?_
    rintro e w1 ⟨rfl, hb1⟩
    replace hB := (hb1.block _ (block_lt hB)).trans hB
    replace hR := (hb1.block _ (block_lt hR)).trans hR
    replace hT0 := (hb1.block _ (block_lt hT0)).trans hT0
    have hbw := below2 hb0 hb1
    have hTl1 := block_lt hT0
    have hBl1 := block_lt hB
    have hRl1 := block_lt hR
    have hne0 : ¬ w.heap.size + 1 = T := by omega
    have hne1 : ¬ T = w.heap.size + 1 := by omega
    have hne2 : ¬ w.heap.size = T := by omega
    have hne3 : ¬ T = w.heap.size := by omega
    have hne4 : ¬ w1.heap.size = w.heap.size + 1 := by omega
    have hne5 : ¬ w.heap.size + 1 = w1.heap.size := by omega
    have hne6 : ¬ w1.heap.size = T := by omega
    have hne7 : ¬ T = w1.heap.size := by omega
    obtain ⟨t0, t1, t2, t3, t4, t5, t6, t7, t8, t9, t10, t11, t12, t13, t14, t15, tf⟩ := cells16 hT0
    obtain ⟨bx, bf⟩ := cell1 hB
    obtain ⟨r0, r1, r2, r3, r4, r5, r6, r7, r8, r9, r10, rf⟩ := cells11 hR
    have hsf := fun xs ys => store_func ⟨T, 6, none⟩ 56 xs ys (w1.alloc (.cells #[.int .i64 0, .int .i64 0, .int .i64 0, cI 0 0] 37)) .nilFunc ((World.cell?_alloc_lt w1 _ ⟨T, 6, none⟩ hTl1).trans t6) ((World.frozen?_alloc_old w1 _ ⟨T, 6, none⟩ (Nat.ne_of_lt hTl1)).trans (tf 6))
    have hO1 := hso w1 (.int .i64 0) (.int .i64 0) (.int .i64 0) (fI 0) (fI 0)
    have hs := heap_setCell_same w1 T 6 _ 88 (.func (.func 56) #[] #[.pointer (some ⟨w.heap.size, 0, none⟩)]) hT0
    have hsB := (Below.heap_setCell w1 ⟨T, 6, none⟩ (.func (.func 56) #[] #[.pointer (some ⟨w.heap.size, 0, none⟩)]) w.heap.size hne2).trans hB
    have hgr := grown_cell (grown_below hbw T) T 6 (.func (.func 56) #[] #[.pointer (some ⟨w.heap.size, 0, none⟩)]) (.inl rfl)
    go_wp2
    have hresl : Tryz.f25.results = #[.cell 2 48, .tmp 3] := by kernel_rfl
    refine bodyPost_ret (v := .tuple #[callV 5 0 0 0 0 0 0 0 false nilS nilS, .bool true]) ?_ rfl ?_
    · simp only [results, hresl]
      go_simp
    · obtain ⟨e1, e2, e3⟩ := eleven_post (K := K) (hr := .func (.func 56) #[] #[.pointer (some ⟨w.heap.size, 0, none⟩)]) (by simpa using hs) hsB hgr (Nat.le_succ w.heap.size) hne1 (by omega) (.int .i64 5) (.int .i64 0) (.int .i64 0) (.int .i64 0) (.int .i64 0) (.int .i64 0) (.int .i64 0) (.int .i64 0) (.bool false) (.slice none 0 0) (.slice none 0 0) (.cells #[.int .i64 0, .int .i64 0, .int .i64 0, cI 0 0] 37)
      exact ⟨nilS, _, rfl, Rd.nil _ 1, (fun b h => by cases h), e1, .inr ⟨w.heap.size, e2, hne2, .inr (.inr ⟨rfl, rfl⟩)⟩, e3⟩
  | some od =>
    rw [h] at HO
    rw [ordR_is] at HO
    obtain ⟨ot, om, of, ore, oim⟩ := od
    simp only [ordO, Option.isSome] at HO ⊢
    go_enter Tryz.func25, Tryz.ntmps25
    go_wp2_with fail
    refine HO.out.mono ?_
    rintro e w1 ⟨rfl, hb1⟩
    replace hB := (hb1.block _ (block_lt hB)).trans hB
    replace hR := (hb1.block _ (block_lt hR)).trans hR
    replace hT0 := (hb1.block _ (block_lt hT0)).trans hT0
    have hbw := below2 hb0 hb1
    have hTl1 := block_lt hT0
    have hBl1 := block_lt hB
    have hRl1 := block_lt hR
    have hne0 : ¬ w.heap.size + 1 = T := by omega
    have hne1 : ¬ T = w.heap.size + 1 := by omega
    have hne2 : ¬ w.heap.size = T := by omega
    have hne3 : ¬ T = w.heap.size := by omega
    have hne4 : ¬ w1.heap.size = w.heap.size + 1 := by omega
    have hne5 : ¬ w.heap.size + 1 = w1.heap.size := by omega
    have hne6 : ¬ w1.heap.size = T := by omega
    have hne7 : ¬ T = w1.heap.size := by omega
    obtain ⟨t0, t1, t2, t3, t4, t5, t6, t7, t8, t9, t10, t11, t12, t13, t14, t15, tf⟩ := cells16 hT0
    obtain ⟨bx, bf⟩ := cell1 hB
    obtain ⟨r0, r1, r2, r3, r4, r5, r6, r7, r8, r9, r10, rf⟩ := cells11 hR
    have hO1 := hso w1 (.int .i64 ot) (.int .i64 om) (.int .i64 of) (fI ore) (fI oim)
    have s10 : (store ⟨T, 10, none⟩ (.complex .f64 (fI ore) (fI oim))).run Tryz.prog (w1.alloc (.cells #[.int .i64 ot, .int .i64 om, .int .i64 of, cI ore oim] 37)) = .ok () ((w1.setCell ⟨T, 10, none⟩ (cI ore oim)).alloc (.cells #[.int .i64 ot, .int .i64 om, .int .i64 of, cI ore oim] 37)) := by
      rw [store_complex _ _ _ _ _ ((World.cell?_alloc_lt w1 _ ⟨T, 10, none⟩ hTl1).trans t10) ((World.frozen?_alloc_old w1 _ ⟨T, 10, none⟩ (Nat.ne_of_lt hTl1)).trans (tf 10))]
      exact congrArg (Result.ok ()) (World.setCell_alloc_past _ T 10 _ hTl1)
    have hs := heap_setCell_same w1 T 10 _ 88 (cI ore oim) hT0
    have hs : (w1.setCell ⟨T, 10, none⟩ (cI ore oim)).heap[T]? = some (tkO { K with ga := ore, gb := oim } ov tb on .nilFunc) := by simpa using hs
    have hls : T < (w1.setCell ⟨T, 10, none⟩ (cI ore oim)).heap.size := block_lt hs
    have hsf := fun xs ys => store_func ⟨T, 6, none⟩ 56 xs ys ((w1.setCell ⟨T, 10, none⟩ (cI ore oim)).alloc (.cells #[.int .i64 ot, .int .i64 om, .int .i64 of, cI ore oim] 37)) .nilFunc ((World.cell?_alloc_lt _ _ ⟨T, 6, none⟩ hls).trans (cell_of hs 6)) ((World.frozen?_alloc_old _ _ ⟨T, 6, none⟩ (Nat.ne_of_lt hls)).trans (frozen_of hs 6))
    have hs6 := heap_setCell_same _ T 6 _ 88 (.func (.func 56) #[] #[.pointer (some ⟨w.heap.size, 0, none⟩)]) hs
    have hsB := (Below.heap_setCell _ ⟨T, 6, none⟩ (.func (.func 56) #[] #[.pointer (some ⟨w.heap.size, 0, none⟩)]) w.heap.size hne2).trans ((Below.heap_setCell w1 ⟨T, 10, none⟩ (cI ore oim) w.heap.size hne2).trans hB)
    have hgr := grown_cell (grown_cell (grown_below hbw T) T 10 (cI ore oim) (.inl rfl)) T 6 (.func (.func 56) #[] #[.pointer (some ⟨w.heap.size, 0, none⟩)]) (.inl rfl)
    go_wp2
    have hresl : Tryz.f25.results = #[.cell 2 48, .tmp 3] := by kernel_rfl
    refine bodyPost_ret (v := .tuple #[callV 5 0 0 0 0 0 0 0 false nilS nilS, .bool true]) ?_ rfl ?_
    · simp only [results, hresl]
      go_simp
    · obtain ⟨e1, e2, e3⟩ := eleven_post (K := { K with ga := ore, gb := oim }) (hr := .func (.func 56) #[] #[.pointer (some ⟨w.heap.size, 0, none⟩)]) (by simpa using hs6) hsB hgr (Nat.le_succ w.heap.size) hne1 (by omega) (.int .i64 5) (.int .i64 0) (.int .i64 0) (.int .i64 0) (.int .i64 0) (.int .i64 0) (.int .i64 0) (.int .i64 0) (.bool false) (.slice none 0 0) (.slice none 0 0) (.cells #[.int .i64 ot, .int .i64 om, .int .i64 of, cI ore oim] 37)
      exact ⟨nilS, _, rfl, Rd.nil _ 1, (fun b h => by cases h), e1, .inr ⟨w.heap.size, e2, hne2, .inr (.inr ⟨rfl, rfl⟩)⟩, e3⟩

end Go.Proofs.YtpilfhjlfbjloaaGreatDoor
