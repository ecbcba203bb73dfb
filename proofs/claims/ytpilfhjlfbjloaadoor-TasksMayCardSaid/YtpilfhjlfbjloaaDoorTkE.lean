/-
  The walks of the steps of tasks: steer, poll. Conditions: a task's block, its pose and its goal may be.
-/
import Derived.Test.YtpilfhjlfbjloaaDoorTkD
namespace Go.Proofs.YtpilfhjlfbjloaaDoor
open Go.RowKit
attribute [local irreducible] fI

/-- How fast a task steers. -/
def steerA (K : Tk) : Int := if K.mode = 4 then clampI (K.ga - K.pose.ar) else if K.mode = 5 then clampI (0 - K.pose.ar) else 0
def steerB (K : Tk) : Int := if K.mode = 4 then clampI (K.gb - K.pose.ai) else if K.mode = 5 then clampI (0 - K.pose.ai) else 0
theorem clamp_h (d : Int) : H32 (clampI d) := by have := clamp_in d; unfold H32; omega
theorem zero_h : H32 0 := by unfold H32; decide
theorem cI_zero : cI 0 0 = .complex .f64 0 0 := by
  show Value.complex .f64 (fI 0) (fI 0) = _
  rw [fI_zero]
theorem okZ0 : okZ 0 0 = true := by decide

set_option maxRecDepth 100000 in
set_option maxHeartbeats 1600000 in
theorem steer_step (T : Nat) (K : Tk) (ov tb on : Value) (w : World) (hT : w.heap[T]? = some (tkO K ov tb on .nilFunc)) (hp : checkP K.pose = 0) (hg : okZ K.ga K.gb = true) :
    Calls Tryd.prog 29 #[.pointer (some ⟨T, 0, none⟩)] w (StepPost T ov tb on K 1 2 0 0 0 false [wordZ (steerA K) (steerB K)] true 0 w) := by
  have hTl := block_lt hT
  have h1 : H32 (steerA K) := by unfold steerA; (repeat' split); exact clamp_h _; exact clamp_h _; exact zero_h
  have h2 : H32 (steerB K) := by unfold steerB; (repeat' split); exact clamp_h _; exact clamp_h _; exact zero_h
  have HW := hide (fun w => word_any h1 h2 w)
  clear h1 h2
  by_cases hm : K.mode = 4
  · have HS := hide (fun w => steer_any K.pose hp K.ga K.gb hg w)
    rw [show clampI (K.ga - K.pose.ar) = steerA K by unfold steerA; rw [if_pos hm], show clampI (K.gb - K.pose.ai) = steerB K by unfold steerB; rw [if_pos hm]] at HS
    clear hp hg
    have hP := alloc_stays w callZ T _ hT
    have hB := heap_alloc_new w callZ
    have hbw := below_new w callZ
    have hPl := block_lt hP
    obtain ⟨t0, t1, t2, t3, t4, t5, t6, t7, t8, t9, t10, t11, t12, t13, t14, t15, tf⟩ := cells16 hP
    rw [hm] at t11
    go_enter Tryd.func29, Tryd.ntmps29
    go_wp2_with fail
    generalize w.alloc callZ = Y at *
    refine wp_region_ext (by kernel_rfl) (by kernel_rfl) ?_
    repeat (first
      | go_big_quiet_skip
      | (go_big_quiet_want
         first
           | (apply quiet_val
              · intro wq hq
                have hcq := hq.cells
                have hzq := hq.lift
                go_simp
                try go_bits
                first | done | with_reducible rfl
              (try simp only [Act.put, List.setIfInBounds_toArray, List.set_cons_zero, List.set_cons_succ])
              go_big_quiet_on)
           | (apply quiet_call
              · intro wq hq
                have hcq := hq.cells
                have hzq := hq.lift
                go_simp
                first
                  | (go_at_call 44; exact (HS.out _).mono fun e w' hp => ⟨hp.1, hq.call hp.2⟩)
              (try simp only [Act.put, List.setIfInBounds_toArray, List.set_cons_zero, List.set_cons_succ])
              go_big_quiet_on)))
    refine wpQuiet_nil ?_
    intro w1 hz1
    have hb1 := hz1.below
    replace hB := (hb1.block _ (block_lt hB)).trans hB
    replace hbw := below2 hbw hb1
    have hN1 : w.heap.size < w1.heap.size := block_lt hB
    clear t0 t1 t2 t3 t4 t5 t6 t7 t8 t9 t10 t11 t12 t13 t14 t15 tf
    go_wp2_with fail
    refine (HW.out _).mono ?_
    rintro e w2 ⟨g, c, rfl, hrd, hgw, hb2⟩
    replace hB := (hb2.block _ (block_lt hB)).trans hB
    have hbz := below2 hbw hb2
    obtain ⟨r0, r1, r2, r3, r4, r5, r6, r7, r8, r9, r10, rf⟩ := cells11 hB
    have hgN : w.heap.size < g := by first | omega | (simp at hgw; omega)
    go_wp2
    have hresl : Tryd.f29.results = #[.cell 2 41, .tmp 3] := by kernel_rfl
    refine bodyPost_ret (v := .tuple #[callV 1 2 0 0 0 0 0 0 false nilS (.slice (some ⟨g, 0, none⟩) 1 c), .bool true]) ?_ rfl ?_
    · simp only [results, hresl]
      go_simp
    · refine step_same (ws := [wordZ (steerA K) (steerB K)]) hT (show Rd _ _ 1 1 _ from ?_) (fun b h => by cases h; exact Nat.le_of_lt hgN) ?_
      · repeat (first | with_reducible exact hrd | (with_reducible refine Rd.alloc ?_ _) | (with_reducible refine rd_set ?_ ?_; rotate_left; focus (omega)))
      · repeat (first | with_reducible exact hbz | (with_reducible refine Below.alloc ?_ ?_ _; rotate_left; focus (simp; omega)) | (with_reducible refine Below.setCell ?_ ?_ _; rotate_left; focus (exact Nat.le_refl _)))
  · by_cases hm5 : K.mode = 5
    · have HS := hide (fun w => steer_any K.pose hp 0 0 okZ0 w)
      rw [show clampI (0 - K.pose.ar) = steerA K by unfold steerA; rw [if_neg hm, if_pos hm5], show clampI (0 - K.pose.ai) = steerB K by unfold steerB; rw [if_neg hm, if_pos hm5], cI_zero] at HS
      have hm := hm5
      clear hp hg hm5
      have hP := alloc_stays w callZ T _ hT
      obtain ⟨t0, t1, t2, t3, t4, t5, t6, t7, t8, t9, t10, t11, t12, t13, t14, t15, tf⟩ := cells16 hP
      rw [hm] at t11
      go_enter Tryd.func29, Tryd.ntmps29
      go_wp2_with fail
      refine (HS.out _).mono ?_
      rintro e w1 ⟨rfl, hb1⟩
      have hB := (hb1.block w.heap.size (by simp)).trans (heap_alloc_new w callZ)
      have hbw := below2 (below_new w callZ) hb1
      have hN1 : w.heap.size < w1.heap.size := block_lt hB
      clear t0 t1 t2 t3 t4 t5 t6 t7 t8 t9 t10 t11 t12 t13 t14 t15 tf
      go_wp2_with fail
      refine (HW.out _).mono ?_
      rintro e w2 ⟨g, c, rfl, hrd, hgw, hb2⟩
      replace hB := (hb2.block _ (block_lt hB)).trans hB
      have hbz := below2 hbw hb2
      obtain ⟨r0, r1, r2, r3, r4, r5, r6, r7, r8, r9, r10, rf⟩ := cells11 hB
      have hgN : w.heap.size < g := by first | omega | (simp at hgw; omega)
      go_wp2
      have hresl : Tryd.f29.results = #[.cell 2 41, .tmp 3] := by kernel_rfl
      refine bodyPost_ret (v := .tuple #[callV 1 2 0 0 0 0 0 0 false nilS (.slice (some ⟨g, 0, none⟩) 1 c), .bool true]) ?_ rfl ?_
      · simp only [results, hresl]
        go_simp
      · refine step_same (ws := [wordZ (steerA K) (steerB K)]) hT (show Rd _ _ 1 1 _ from ?_) (fun b h => by cases h; exact Nat.le_of_lt hgN) ?_
        · repeat (first | with_reducible exact hrd | (with_reducible refine Rd.alloc ?_ _) | (with_reducible refine rd_set ?_ ?_; rotate_left; focus (omega)))
        · repeat (first | with_reducible exact hbz | (with_reducible refine Below.alloc ?_ ?_ _; rotate_left; focus (simp; omega)) | (with_reducible refine Below.setCell ?_ ?_ _; rotate_left; focus (exact Nat.le_refl _)))
    · rw [show steerA K = 0 by unfold steerA; rw [if_neg hm, if_neg hm5], show steerB K = 0 by unfold steerB; rw [if_neg hm, if_neg hm5]] at HW ⊢
      rw [cI_zero] at HW
      have e4 : (K.mode == 4) = false := by simpa using hm
      have e5 : (K.mode == 5) = false := by simpa using hm5
      have hP := alloc_stays w callZ T _ hT
      obtain ⟨t0, t1, t2, t3, t4, t5, t6, t7, t8, t9, t10, t11, t12, t13, t14, t15, tf⟩ := cells16 hP
      have hB := heap_alloc_new w callZ
      have hbw := below_new w callZ
      clear hp hg
      go_enter Tryd.func29, Tryd.ntmps29
      go_wp2_with fail
      clear t0 t1 t2 t3 t4 t5 t6 t7 t8 t9 t10 t11 t12 t13 t14 t15 tf
      refine (HW.out _).mono ?_
      rintro e w2 ⟨g, c, rfl, hrd, hgw, hb2⟩
      replace hB := (hb2.block _ (block_lt hB)).trans hB
      have hbz := below2 hbw hb2
      obtain ⟨r0, r1, r2, r3, r4, r5, r6, r7, r8, r9, r10, rf⟩ := cells11 hB
      have hgN : w.heap.size < g := by first | omega | (simp at hgw; omega)
      go_wp2
      have hresl : Tryd.f29.results = #[.cell 2 41, .tmp 3] := by kernel_rfl
      refine bodyPost_ret (v := .tuple #[callV 1 2 0 0 0 0 0 0 false nilS (.slice (some ⟨g, 0, none⟩) 1 c), .bool true]) ?_ rfl ?_
      · simp only [results, hresl]
        go_simp
      · refine step_same (ws := [wordZ 0 0]) hT (show Rd _ _ 1 1 _ from ?_) (fun b h => by cases h; exact Nat.le_of_lt hgN) ?_
        · repeat (first | with_reducible exact hrd | (with_reducible refine Rd.alloc ?_ _) | (with_reducible refine rd_set ?_ ?_; rotate_left; focus (omega)))
        · repeat (first | with_reducible exact hbz | (with_reducible refine Below.alloc ?_ ?_ _; rotate_left; focus (simp; omega)) | (with_reducible refine Below.setCell ?_ ?_ _; rotate_left; focus (exact Nat.le_refl _)))

end Go.Proofs.YtpilfhjlfbjloaaDoor
