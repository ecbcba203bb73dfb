/-
  The walk of the step poll. Conditions: a task's block, its orders as a slice has them.
-/
import Derived.Test.YtpilfhjlfbjloaaDoorTkE
import Derived.Test.YtpilfhjlfbjloaaDoorTNextLib
namespace Go.Proofs.YtpilfhjlfbjloaaDoor
open Go.RowKit
attribute [local irreducible] fI

/-- A task with another goal. -/
def Tk.aim (K : Tk) : Tk := match ordS K with
  | some o => { K with ga := o.re, gb := o.im }
  | none => K

theorem grown_alloc {w y : World} {r : Option Nat} (h : w.grownBy y r) (o : Obj) : w.grownBy (y.alloc o) r :=
  ⟨h.os, h.tape, h.output, by have := h.size; simp; omega, fun b hb hne => by
    have h1 : (y.alloc o).heap[b]? = y.heap[b]? := (below_new y o).block b (Nat.lt_of_lt_of_le hb h.size)
    exact h1.trans (h.block b hb hne)⟩
/-- A call's eleven stores behind a step's work, and a block more. -/
theorem eleven_post {T N B : Nat} {w y : World} {K : Tk} {ov tb on hr : Value} (hy : y.heap[T]? = some (tkO K ov tb on hr)) (hB : y.heap[B]? = some (boxO T)) (hg : w.grownBy y (some T)) (hN : w.heap.size ≤ N) (h1 : T ≠ N) (h2 : B ≠ N) (u0 u1 u2 u3 u4 u5 u6 u7 u8 u9 u10 : Value) (o : Obj) :
    (((((((((((((y.setCell ⟨N, 0, none⟩ u0).setCell ⟨N, 1, none⟩ u1).setCell ⟨N, 2, none⟩ u2).setCell ⟨N, 3, none⟩ u3).setCell ⟨N, 4, none⟩ u4).setCell ⟨N, 5, none⟩ u5).setCell ⟨N, 6, none⟩ u6).setCell ⟨N, 7, none⟩ u7).setCell ⟨N, 8, none⟩ u8).setCell ⟨N, 9, none⟩ u9).setCell ⟨N, 10, none⟩ u10).alloc o).heap[T]? = some (tkO K ov tb on hr)) ∧
    (((((((((((((y.setCell ⟨N, 0, none⟩ u0).setCell ⟨N, 1, none⟩ u1).setCell ⟨N, 2, none⟩ u2).setCell ⟨N, 3, none⟩ u3).setCell ⟨N, 4, none⟩ u4).setCell ⟨N, 5, none⟩ u5).setCell ⟨N, 6, none⟩ u6).setCell ⟨N, 7, none⟩ u7).setCell ⟨N, 8, none⟩ u8).setCell ⟨N, 9, none⟩ u9).setCell ⟨N, 10, none⟩ u10).alloc o).heap[B]? = some (boxO T)) ∧
    w.grownBy ((((((((((((y.setCell ⟨N, 0, none⟩ u0).setCell ⟨N, 1, none⟩ u1).setCell ⟨N, 2, none⟩ u2).setCell ⟨N, 3, none⟩ u3).setCell ⟨N, 4, none⟩ u4).setCell ⟨N, 5, none⟩ u5).setCell ⟨N, 6, none⟩ u6).setCell ⟨N, 7, none⟩ u7).setCell ⟨N, 8, none⟩ u8).setCell ⟨N, 9, none⟩ u9).setCell ⟨N, 10, none⟩ u10).alloc o) (some T) :=
  ⟨alloc_stays _ _ _ _ ((set11_other h1 u0 u1 u2 u3 u4 u5 u6 u7 u8 u9 u10).trans hy), alloc_stays _ _ _ _ ((set11_other h2 u0 u1 u2 u3 u4 u5 u6 u7 u8 u9 u10).trans hB), grown_alloc (grown_set11 hg hN u0 u1 u2 u3 u4 u5 u6 u7 u8 u9 u10) o⟩

set_option maxRecDepth 100000 in
set_option maxHeartbeats 1600000 in
theorem poll_any (T : Nat) (K : Tk) (ov tb on : Value) (w : World) (hT : w.heap[T]? = some (tkO K ov tb on .nilFunc)) (hO : Rd w ov 4 K.orders.length (flatO K.orders)) :
    Calls Tryd.prog 28 #[.pointer (some ⟨T, 0, none⟩)] w (StepPost T ov tb on K.aim 5 0 0 0 0 false [] true 3 w) := by
  have hTl := block_lt hT
  have hso := store_last
  obtain ⟨hB, hR⟩ := news2o w (boxO T) callZ
  have hb0 := below_new2 w (boxO T) callZ
  have hT0 := (hb0.block T hTl).trans hT
  have HO := hide (order_at T K ov tb on .nilFunc _ hT0 (hO.below hb0))
  unfold Tk.aim
  cases h : ordS K with
  | none =>
    rw [h] at HO
    rw [ordR_is] at HO
    simp only [ordO, Option.isSome] at HO
    go_enter Tryd.func28, Tryd.ntmps28
    go_wp2_with fail
    refine HO.out.mono ?_
    rintro e w1 ⟨rfl, hb1⟩
    replace hB := (hb1.block _ (block_lt hB)).trans hB
    replace hR := (hb1.block _ (block_lt hR)).trans hR
    replace hT0 := (hb1.block _ (block_lt hT0)).trans hT0
    have hbw := below2 hb0 hb1
    have hTl1 := block_lt hT0
    have hBl1 := block_lt hB
    have hRl1 := block_lt hR
    have hne0 : ¬ w.heap.size + 1 = T := by omega
    have hne1 : ¬ T = w.heap.size + 1 := by omega
    have hne2 : ¬ w.heap.size = T := by omega
    have hne3 : ¬ T = w.heap.size := by omega
    have hne4 : ¬ w1.heap.size = w.heap.size + 1 := by omega
    have hne5 : ¬ w.heap.size + 1 = w1.heap.size := by omega
    have hne6 : ¬ w1.heap.size = T := by omega
    have hne7 : ¬ T = w1.heap.size := by omega
    obtain ⟨t0, t1, t2, t3, t4, t5, t6, t7, t8, t9, t10, t11, t12, t13, t14, t15, tf⟩ := cells16 hT0
    obtain ⟨bx, bf⟩ := cell1 hB
    obtain ⟨r0, r1, r2, r3, r4, r5, r6, r7, r8, r9, r10, rf⟩ := cells11 hR
    have hsf := fun xs ys => store_func ⟨T, 6, none⟩ 42 xs ys (w1.alloc (.cells #[.int .i64 0, .int .i64 0, .int .i64 0, cI 0 0] 56)) .nilFunc ((World.cell?_alloc_lt w1 _ ⟨T, 6, none⟩ hTl1).trans t6) ((World.frozen?_alloc_old w1 _ ⟨T, 6, none⟩ (Nat.ne_of_lt hTl1)).trans (tf 6))
    have hO1 := hso w1 (.int .i64 0) (.int .i64 0) (.int .i64 0) (fI 0) (fI 0)
    have hs := heap_setCell_same w1 T 6 _ 70 (.func (.func 42) #[] #[.pointer (some ⟨w.heap.size, 0, none⟩)]) hT0
    have hsB := (Below.heap_setCell w1 ⟨T, 6, none⟩ (.func (.func 42) #[] #[.pointer (some ⟨w.heap.size, 0, none⟩)]) w.heap.size hne2).trans hB
    have hgr := grown_cell (grown_below hbw T) T 6 (.func (.func 42) #[] #[.pointer (some ⟨w.heap.size, 0, none⟩)]) (.inl rfl)
    go_wp2
    have hresl : Tryd.f28.results = #[.cell 2 41, .tmp 3] := by kernel_rfl
    refine bodyPost_ret (v := .tuple #[callV 5 0 0 0 0 0 0 0 false nilS nilS, .bool true]) ?_ rfl ?_
    · simp only [results, hresl]
      go_simp
    · obtain ⟨e1, e2, e3⟩ := eleven_post (K := K) (hr := .func (.func 42) #[] #[.pointer (some ⟨w.heap.size, 0, none⟩)]) (by simpa using hs) hsB hgr (Nat.le_succ w.heap.size) hne1 (by omega) (.int .i64 5) (.int .i64 0) (.int .i64 0) (.int .i64 0) (.int .i64 0) (.int .i64 0) (.int .i64 0) (.int .i64 0) (.bool false) (.slice none 0 0) (.slice none 0 0) (.cells #[.int .i64 0, .int .i64 0, .int .i64 0, cI 0 0] 56)
      exact ⟨nilS, _, rfl, Rd.nil _ 1, (fun b h => by cases h), e1, .inr ⟨w.heap.size, e2, hne2, .inr (.inr ⟨rfl, rfl⟩)⟩, e3⟩
  | some od =>
    rw [h] at HO
    rw [ordR_is] at HO
    obtain ⟨ot, om, of, ore, oim⟩ := od
    simp only [ordO, Option.isSome] at HO ⊢
    go_enter Tryd.func28, Tryd.ntmps28
    go_wp2_with fail
    refine HO.out.mono ?_
    rintro e w1 ⟨rfl, hb1⟩
    replace hB := (hb1.block _ (block_lt hB)).trans hB
    replace hR := (hb1.block _ (block_lt hR)).trans hR
    replace hT0 := (hb1.block _ (block_lt hT0)).trans hT0
    have hbw := below2 hb0 hb1
    have hTl1 := block_lt hT0
    have hBl1 := block_lt hB
    have hRl1 := block_lt hR
    have hne0 : ¬ w.heap.size + 1 = T := by omega
    have hne1 : ¬ T = w.heap.size + 1 := by omega
    have hne2 : ¬ w.heap.size = T := by omega
    have hne3 : ¬ T = w.heap.size := by omega
    have hne4 : ¬ w1.heap.size = w.heap.size + 1 := by omega
    have hne5 : ¬ w.heap.size + 1 = w1.heap.size := by omega
    have hne6 : ¬ w1.heap.size = T := by omega
    have hne7 : ¬ T = w1.heap.size := by omega
    obtain ⟨t0, t1, t2, t3, t4, t5, t6, t7, t8, t9, t10, t11, t12, t13, t14, t15, tf⟩ := cells16 hT0
    obtain ⟨bx, bf⟩ := cell1 hB
    obtain ⟨r0, r1, r2, r3, r4, r5, r6, r7, r8, r9, r10, rf⟩ := cells11 hR
    have hO1 := hso w1 (.int .i64 ot) (.int .i64 om) (.int .i64 of) (fI ore) (fI oim)
    have s10 : (store ⟨T, 10, none⟩ (.complex .f64 (fI ore) (fI oim))).run Tryd.prog (w1.alloc (.cells #[.int .i64 ot, .int .i64 om, .int .i64 of, cI ore oim] 56)) = .ok () ((w1.setCell ⟨T, 10, none⟩ (cI ore oim)).alloc (.cells #[.int .i64 ot, .int .i64 om, .int .i64 of, cI ore oim] 56)) := by
      rw [store_complex _ _ _ _ _ ((World.cell?_alloc_lt w1 _ ⟨T, 10, none⟩ hTl1).trans t10) ((World.frozen?_alloc_old w1 _ ⟨T, 10, none⟩ (Nat.ne_of_lt hTl1)).trans (tf 10))]
      exact congrArg (Result.ok ()) (World.setCell_alloc_past _ T 10 _ hTl1)
    have hs := heap_setCell_same w1 T 10 _ 70 (cI ore oim) hT0
    have hs : (w1.setCell ⟨T, 10, none⟩ (cI ore oim)).heap[T]? = some (tkO { K with ga := ore, gb := oim } ov tb on .nilFunc) := by simpa using hs
    have hls : T < (w1.setCell ⟨T, 10, none⟩ (cI ore oim)).heap.size := block_lt hs
    have hsf := fun xs ys => store_func ⟨T, 6, none⟩ 42 xs ys ((w1.setCell ⟨T, 10, none⟩ (cI ore oim)).alloc (.cells #[.int .i64 ot, .int .i64 om, .int .i64 of, cI ore oim] 56)) .nilFunc ((World.cell?_alloc_lt _ _ ⟨T, 6, none⟩ hls).trans (cell_of hs 6)) ((World.frozen?_alloc_old _ _ ⟨T, 6, none⟩ (Nat.ne_of_lt hls)).trans (frozen_of hs 6))
    have hs6 := heap_setCell_same _ T 6 _ 70 (.func (.func 42) #[] #[.pointer (some ⟨w.heap.size, 0, none⟩)]) hs
    have hsB := (Below.heap_setCell _ ⟨T, 6, none⟩ (.func (.func 42) #[] #[.pointer (some ⟨w.heap.size, 0, none⟩)]) w.heap.size hne2).trans ((Below.heap_setCell w1 ⟨T, 10, none⟩ (cI ore oim) w.heap.size hne2).trans hB)
    have hgr := grown_cell (grown_cell (grown_below hbw T) T 10 (cI ore oim) (.inl rfl)) T 6 (.func (.func 42) #[] #[.pointer (some ⟨w.heap.size, 0, none⟩)]) (.inl rfl)
    go_wp2
    have hresl : Tryd.f28.results = #[.cell 2 41, .tmp 3] := by kernel_rfl
    refine bodyPost_ret (v := .tuple #[callV 5 0 0 0 0 0 0 0 false nilS nilS, .bool true]) ?_ rfl ?_
    · simp only [results, hresl]
      go_simp
    · obtain ⟨e1, e2, e3⟩ := eleven_post (K := { K with ga := ore, gb := oim }) (hr := .func (.func 42) #[] #[.pointer (some ⟨w.heap.size, 0, none⟩)]) (by simpa using hs6) hsB hgr (Nat.le_succ w.heap.size) hne1 (by omega) (.int .i64 5) (.int .i64 0) (.int .i64 0) (.int .i64 0) (.int .i64 0) (.int .i64 0) (.int .i64 0) (.int .i64 0) (.bool false) (.slice none 0 0) (.slice none 0 0) (.cells #[.int .i64 ot, .int .i64 om, .int .i64 of, cI ore oim] 56)
      exact ⟨nilS, _, rfl, Rd.nil _ 1, (fun b h => by cases h), e1, .inr ⟨w.heap.size, e2, hne2, .inr (.inr ⟨rfl, rfl⟩)⟩, e3⟩

end Go.Proofs.YtpilfhjlfbjloaaDoor
