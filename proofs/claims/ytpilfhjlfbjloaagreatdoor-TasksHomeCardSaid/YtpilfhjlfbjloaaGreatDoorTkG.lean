/-
  The walk of the step guard. Conditions: a task's block, its orders as a slice has them.
-/
import Derived.Test.YtpilfhjlfbjloaaGreatDoorTkF
namespace Go.Proofs.YtpilfhjlfbjloaaGreatDoor
open Go.RowKit
attribute [local irreducible] fI

/-- What a failsafe asks for. -/
def guardM (K : Tk) : Int := match ordS K with
  | some o => o.mode
  | none => if 1 ≤ K.mode ∧ K.mode ≤ 5 then 7 else if K.mode = 7 then 6 else 0
def guardF (K : Tk) : Bool := match ordS K with
  | some o => o.flags != 0
  | none => if 1 ≤ K.mode ∧ K.mode ≤ 5 then false else decide (K.mode = 7)
def guardI (K : Tk) : Bool := match ordS K with
  | some _ => true
  | none => if 1 ≤ K.mode ∧ K.mode ≤ 5 then (bits .and .i64 K.flags 5 != 5) else decide (K.mode = 7)

abbrev reqO : Obj := .cells #[.int .i64 7, .int .i64 0, .int .i64 0, .int .i64 0, .int .i64 0, .int .i64 3, .int .i64 0, .int .i64 0, .bool false, .slice none 0 0, .slice none 0 0] 48

set_option maxRecDepth 100000 in
set_option maxHeartbeats 1600000 in
theorem guard_some (T : Nat) (K : Tk) (ov tb on : Value) (w : World) (hT : w.heap[T]? = some (tkO K ov tb on .nilFunc)) (hO : Rd w ov 4 K.orders.length (flatO K.orders)) (o : Ord) (h : ordS K = some o) :
    Calls Tryz.prog 27 #[.pointer (some ⟨T, 0, none⟩)] w (StepPost T ov tb on K 7 0 3 o.mode 0 (o.flags != 0) [] true 0 w) := by
  have hTl := block_lt hT
  have hso := store_last
  obtain ⟨hR, hC⟩ := news2o w callZ reqO
  have hb0 := below_new2 w callZ reqO
  have hT0 := (hb0.block T hTl).trans hT
  have HO := hide (order_at T K ov tb on .nilFunc _ hT0 (hO.below hb0))
  rw [h] at HO
  rw [ordR_is] at HO
  obtain ⟨ot, om, of, ore, oim⟩ := o
  simp only [ordO, Option.isSome] at HO ⊢
  obtain ⟨Fb, hFb⟩ : ∃ Fb, Fb = (of != 0) := ⟨_, rfl⟩
  rw [← hFb]
  go_enter Tryz.func27, Tryz.ntmps27
  go_wp2_with fail
  refine HO.out.mono ?_
  rintro e w1 ⟨rfl, hb1⟩
  replace hR := (hb1.block _ (block_lt hR)).trans hR
  replace hC := (hb1.block _ (block_lt hC)).trans hC
  replace hT0 := (hb1.block _ (block_lt hT0)).trans hT0
  have hbw := below2 hb0 hb1
  have hTl1 := block_lt hT0
  have hRl1 := block_lt hR
  have hCl1 := block_lt hC
  have hne0 : ¬ w.heap.size + 1 = T := by omega
  have hne1 : ¬ T = w.heap.size + 1 := by omega
  have hne2 : ¬ w.heap.size = T := by omega
  have hne3 : ¬ T = w.heap.size := by omega
  have hne4 : ¬ w1.heap.size = w.heap.size + 1 := by omega
  have hne5 : ¬ w.heap.size + 1 = w1.heap.size := by omega
  obtain ⟨t0, t1, t2, t3, t4, t5, t6, t7, t8, t9, t10, t11, t12, t13, t14, t15, tf⟩ := cells16 hT0
  obtain ⟨d0, d1, d2, d3, d4, d5, d6, d7, d8, d9, d10, df⟩ := cells11 hC
  obtain ⟨r0, r1, r2, r3, r4, r5, r6, r7, r8, r9, r10, rf⟩ := cells11 hR
  have hO1 := hso w1 (.int .i64 ot) (.int .i64 om) (.int .i64 of) (fI ore) (fI oim)
  go_wp2_with fail
  go_region
  all_goals
    go_wp2
    rw [← hFb]
    have hresl : Tryz.f27.results = #[.cell 2 48, .tmp 3] := by kernel_rfl
    refine bodyPost_ret (v := .tuple #[callV 7 0 0 0 0 3 om 0 Fb nilS nilS, .bool true]) ?_ rfl ?_
    · simp only [results, hresl]
      go_simp
    · refine step_same (ws := []) hT (Rd.nil _ 1) (fun b h => by cases h) ?_
      repeat (first | with_reducible exact hbw | (with_reducible refine Below.drew ?_) | (with_reducible refine Below.alloc ?_ ?_ _; rotate_left; focus (simp; omega)) | (with_reducible refine Below.setCell ?_ ?_ _; rotate_left; focus (first | exact Nat.le_refl _ | exact Nat.le_succ _)))

set_option maxRecDepth 100000 in
set_option maxHeartbeats 3200000 in
theorem guard_none (T : Nat) (K : Tk) (ov tb on : Value) (w : World) (hT : w.heap[T]? = some (tkO K ov tb on .nilFunc)) (hO : Rd w ov 4 K.orders.length (flatO K.orders)) (h : ordS K = none) :
    Calls Tryz.prog 27 #[.pointer (some ⟨T, 0, none⟩)] w (StepPost T ov tb on K 7 0 3 (guardM K) 0 (guardF K) [] (guardI K) 0 w) := by
  have hTl := block_lt hT
  have hso := store_last
  obtain ⟨hR, hC⟩ := news2o w callZ reqO
  have hb0 := below_new2 w callZ reqO
  have hT0 := (hb0.block T hTl).trans hT
  have HO := hide (order_at T K ov tb on .nilFunc _ hT0 (hO.below hb0))
  rw [h] at HO
  rw [ordR_is] at HO
  simp only [ordO, Option.isSome] at HO
  unfold guardM guardF guardI
  rw [h]
  simp only
  clear h
  by_cases h5 : 1 ≤ K.mode ∧ K.mode ≤ 5
  · simp only [if_pos h5]
    obtain ⟨Gb, hGb⟩ : ∃ Gb, Gb = (bits .and .i64 K.flags 5 != 5) := ⟨_, rfl⟩
    rw [← hGb]
    rcases (show K.mode = 1 ∨ K.mode = 2 ∨ K.mode = 3 ∨ K.mode = 4 ∨ K.mode = 5 by omega) with hm | hm | hm | hm | hm
    all_goals
      go_enter Tryz.func27, Tryz.ntmps27
      go_wp2_with fail
      refine HO.out.mono ?_
      rintro e w1 ⟨rfl, hb1⟩
      replace hR := (hb1.block _ (block_lt hR)).trans hR
      replace hC := (hb1.block _ (block_lt hC)).trans hC
      replace hT0 := (hb1.block _ (block_lt hT0)).trans hT0
      have hbw := below2 hb0 hb1
      have hTl1 := block_lt hT0
      have hRl1 := block_lt hR
      have hCl1 := block_lt hC
      have hne0 : ¬ w.heap.size + 1 = T := by omega
      have hne1 : ¬ T = w.heap.size + 1 := by omega
      have hne2 : ¬ w.heap.size = T := by omega
      have hne3 : ¬ T = w.heap.size := by omega
      have hne4 : ¬ w1.heap.size = w.heap.size + 1 := by omega
      have hne5 : ¬ w.heap.size + 1 = w1.heap.size := by omega
      obtain ⟨t0, t1, t2, t3, t4, t5, t6, t7, t8, t9, t10, t11, t12, t13, t14, t15, tf⟩ := cells16 hT0
      obtain ⟨d0, d1, d2, d3, d4, d5, d6, d7, d8, d9, d10, df⟩ := cells11 hC
      obtain ⟨r0, r1, r2, r3, r4, r5, r6, r7, r8, r9, r10, rf⟩ := cells11 hR
      rw [hm] at t11
      clear h5
      have hO1 := hso w1 (.int .i64 0) (.int .i64 0) (.int .i64 0) (fI 0) (fI 0)
      go_wp2_with fail
      go_region
      all_goals
        go_wp2
        rw [← hGb]
        have hresl : Tryz.f27.results = #[.cell 2 48, .tmp 3] := by kernel_rfl
        refine bodyPost_ret (v := .tuple #[callV 7 0 0 0 0 3 7 0 false nilS nilS, .bool Gb]) ?_ rfl ?_
        · simp only [results, hresl]
          go_simp
        · refine step_same (ws := []) hT (Rd.nil _ 1) (fun b h => by cases h) ?_
          repeat (first | with_reducible exact hbw | (with_reducible refine Below.drew ?_) | (with_reducible refine Below.alloc ?_ ?_ _; rotate_left; focus (simp; omega)) | (with_reducible refine Below.setCell ?_ ?_ _; rotate_left; focus (first | exact Nat.le_refl _ | exact Nat.le_succ _)))
  · by_cases h7 : K.mode = 7
    · simp only [h7, decide_true]
      go_enter Tryz.func27, Tryz.ntmps27
      go_wp2_with fail
      refine HO.out.mono ?_
      rintro e w1 ⟨rfl, hb1⟩
      replace hR := (hb1.block _ (block_lt hR)).trans hR
      replace hC := (hb1.block _ (block_lt hC)).trans hC
      replace hT0 := (hb1.block _ (block_lt hT0)).trans hT0
      have hbw := below2 hb0 hb1
      have hTl1 := block_lt hT0
      have hRl1 := block_lt hR
      have hCl1 := block_lt hC
      have hne0 : ¬ w.heap.size + 1 = T := by omega
      have hne1 : ¬ T = w.heap.size + 1 := by omega
      have hne2 : ¬ w.heap.size = T := by omega
      have hne3 : ¬ T = w.heap.size := by omega
      have hne4 : ¬ w1.heap.size = w.heap.size + 1 := by omega
      have hne5 : ¬ w.heap.size + 1 = w1.heap.size := by omega
      obtain ⟨t0, t1, t2, t3, t4, t5, t6, t7, t8, t9, t10, t11, t12, t13, t14, t15, tf⟩ := cells16 hT0
      obtain ⟨d0, d1, d2, d3, d4, d5, d6, d7, d8, d9, d10, df⟩ := cells11 hC
      obtain ⟨r0, r1, r2, r3, r4, r5, r6, r7, r8, r9, r10, rf⟩ := cells11 hR
      rw [h7] at t11
      clear h5
      have hO1 := hso w1 (.int .i64 0) (.int .i64 0) (.int .i64 0) (fI 0) (fI 0)
      go_wp2
      have hresl : Tryz.f27.results = #[.cell 2 48, .tmp 3] := by kernel_rfl
      refine bodyPost_ret (v := .tuple #[callV 7 0 0 0 0 3 6 0 true nilS nilS, .bool true]) ?_ rfl ?_
      · simp only [results, hresl]
        go_simp
      · refine step_same (ws := []) hT (Rd.nil _ 1) (fun b h => by cases h) ?_
        repeat (first | with_reducible exact hbw | (with_reducible refine Below.drew ?_) | (with_reducible refine Below.alloc ?_ ?_ _; rotate_left; focus (simp; omega)) | (with_reducible refine Below.setCell ?_ ?_ _; rotate_left; focus (first | exact Nat.le_refl _ | exact Nat.le_succ _)))
    · simp only [if_neg h5, h7, decide_false]
      have e1 : (K.mode == 1) = false := by simp; omega
      have e2 : (K.mode == 2) = false := by simp; omega
      have e3 : (K.mode == 3) = false := by simp; omega
      have e4 : (K.mode == 4) = false := by simp; omega
      have e5 : (K.mode == 5) = false := by simp; omega
      have e7 : (K.mode == 7) = false := by simp; omega
      go_enter Tryz.func27, Tryz.ntmps27
      go_wp2_with fail
      refine HO.out.mono ?_
      rintro e w1 ⟨rfl, hb1⟩
      replace hR := (hb1.block _ (block_lt hR)).trans hR
      replace hC := (hb1.block _ (block_lt hC)).trans hC
      replace hT0 := (hb1.block _ (block_lt hT0)).trans hT0
      have hbw := below2 hb0 hb1
      have hTl1 := block_lt hT0
      have hRl1 := block_lt hR
      have hCl1 := block_lt hC
      have hne0 : ¬ w.heap.size + 1 = T := by omega
      have hne1 : ¬ T = w.heap.size + 1 := by omega
      have hne2 : ¬ w.heap.size = T := by omega
      have hne3 : ¬ T = w.heap.size := by omega
      have hne4 : ¬ w1.heap.size = w.heap.size + 1 := by omega
      have hne5 : ¬ w.heap.size + 1 = w1.heap.size := by omega
      obtain ⟨t0, t1, t2, t3, t4, t5, t6, t7, t8, t9, t10, t11, t12, t13, t14, t15, tf⟩ := cells16 hT0
      obtain ⟨d0, d1, d2, d3, d4, d5, d6, d7, d8, d9, d10, df⟩ := cells11 hC
      obtain ⟨r0, r1, r2, r3, r4, r5, r6, r7, r8, r9, r10, rf⟩ := cells11 hR
      clear h5
      have hO1 := hso w1 (.int .i64 0) (.int .i64 0) (.int .i64 0) (fI 0) (fI 0)
      go_wp2
      have hresl : Tryz.f27.results = #[.cell 2 48, .tmp 3] := by kernel_rfl
      refine bodyPost_ret (v := .tuple #[callV 7 0 0 0 0 3 0 0 false nilS nilS, .bool false]) ?_ rfl ?_
      · simp only [results, hresl]
        go_simp
      · refine step_same (ws := []) hT (Rd.nil _ 1) (fun b h => by cases h) ?_
        repeat (first | with_reducible exact hbw | (with_reducible refine Below.drew ?_) | (with_reducible refine Below.alloc ?_ ?_ _; rotate_left; focus (simp; omega)) | (with_reducible refine Below.setCell ?_ ?_ _; rotate_left; focus (first | exact Nat.le_refl _ | exact Nat.le_succ _)))

theorem guard_any (T : Nat) (K : Tk) (ov tb on : Value) (w : World) (hT : w.heap[T]? = some (tkO K ov tb on .nilFunc)) (hO : Rd w ov 4 K.orders.length (flatO K.orders)) :
    Calls Tryz.prog 27 #[.pointer (some ⟨T, 0, none⟩)] w (StepPost T ov tb on K 7 0 3 (guardM K) 0 (guardF K) [] (guardI K) 0 w) := by
  cases h : ordS K with
  | none => exact guard_none T K ov tb on w hT hO h
  | some o =>
    have := guard_some T K ov tb on w hT hO o h
    unfold guardM guardF guardI
    rw [h]
    exact this

end Go.Proofs.YtpilfhjlfbjloaaGreatDoor
