/-
  The walks of the steps of tasks without orders, and of call.Same at calls without lists. Conditions: a task's block as it stands. The walks of nav.Drift, nav.Blend, nav.Steer at poses that may be. Conditions: parts of at most 33 bits.
-/
import Derived.Test.YtpilfhjlfbjloaaGreatDoorEncode
import Derived.Test.YtpilfhjlfbjloaaGreatDoorGet
import Derived.Test.YtpilfhjlfbjloaaGreatDoorBLib
import Derived.Test.YtpilfhjlfbjloaaGreatDoorNavA
namespace Go.Proofs.YtpilfhjlfbjloaaGreatDoor
open Go.RowKit

abbrev z0 : Value := .complex .f64 0 0
abbrev z1 : Value := .complex .f64 4607182418800017408 0
/-- An order that is none. -/
abbrev orderZ : Value := .agg #[.int .i64 0, .int .i64 0, .int .i64 0, z0]
/-- A call. -/
abbrev callV (kind topic sub cap rank source mode flags : Int) (free : Bool) (set words : Value) : Value := .agg #[.int .i64 kind, .int .i64 topic, .int .i64 sub, .int .i64 cap, .int .i64 rank, .int .i64 source, .int .i64 mode, .int .i64 flags, .bool free, set, words]
abbrev callZ : Obj := .cells #[.int .i64 0, .int .i64 0, .int .i64 0, .int .i64 0, .int .i64 0, .int .i64 0, .int .i64 0, .int .i64 0, .bool false, .slice none 0 0, .slice none 0 0] 48
abbrev orderO : Obj := .cells #[.int .i64 0, .int .i64 0, .int .i64 0, .complex .f64 0 0] 37
theorem alloc_stays (w : World) (o : Obj) (i : Nat) (u : Obj) (h : w.heap[i]? = some u) : (w.alloc o).heap[i]? = some u :=
  ((below_new w o).block i (Array.getElem?_eq_some_iff.1 h).1).trans h
/-- A task's block. -/
abbrev taskB (turns turn : Int) (tb : Value) (next : Int) (on hr : Value) (mode source : Int) (hold : Bool) (flags epoch : Int) : Obj :=
  .cells #[nilS, .int .i64 turns, .int .i64 turn, tb, .int .i64 next, on, hr, z0, z0, z1, z0, .int .i64 mode, .int .i64 source, .bool hold, .int .i64 flags, .int .u64 epoch] 88

theorem cells16 {x : World} {g : Nat} {c0 c1 c2 c3 c4 c5 c6 c7 c8 c9 c10 c11 c12 c13 c14 c15 : Value} {t : TypeId} (h : x.heap[g]? = some (.cells #[c0, c1, c2, c3, c4, c5, c6, c7, c8, c9, c10, c11, c12, c13, c14, c15] t)) :
    x.cell? ⟨g, 0, none⟩ = some c0 ∧ x.cell? ⟨g, 1, none⟩ = some c1 ∧ x.cell? ⟨g, 2, none⟩ = some c2 ∧ x.cell? ⟨g, 3, none⟩ = some c3 ∧ x.cell? ⟨g, 4, none⟩ = some c4 ∧ x.cell? ⟨g, 5, none⟩ = some c5 ∧ x.cell? ⟨g, 6, none⟩ = some c6 ∧ x.cell? ⟨g, 7, none⟩ = some c7 ∧ x.cell? ⟨g, 8, none⟩ = some c8 ∧ x.cell? ⟨g, 9, none⟩ = some c9 ∧ x.cell? ⟨g, 10, none⟩ = some c10 ∧ x.cell? ⟨g, 11, none⟩ = some c11 ∧ x.cell? ⟨g, 12, none⟩ = some c12 ∧ x.cell? ⟨g, 13, none⟩ = some c13 ∧ x.cell? ⟨g, 14, none⟩ = some c14 ∧ x.cell? ⟨g, 15, none⟩ = some c15 ∧ ∀ i, x.frozen? ⟨g, i, none⟩ = false :=
  ⟨cell_of h 0, cell_of h 1, cell_of h 2, cell_of h 3, cell_of h 4, cell_of h 5, cell_of h 6, cell_of h 7, cell_of h 8, cell_of h 9, cell_of h 10, cell_of h 11, cell_of h 12, cell_of h 13, cell_of h 14, cell_of h 15, frozen_of h⟩

theorem cells11 {x : World} {g : Nat} {c0 c1 c2 c3 c4 c5 c6 c7 c8 c9 c10 : Value} {t : TypeId} (h : x.heap[g]? = some (.cells #[c0, c1, c2, c3, c4, c5, c6, c7, c8, c9, c10] t)) :
    x.cell? ⟨g, 0, none⟩ = some c0 ∧ x.cell? ⟨g, 1, none⟩ = some c1 ∧ x.cell? ⟨g, 2, none⟩ = some c2 ∧ x.cell? ⟨g, 3, none⟩ = some c3 ∧ x.cell? ⟨g, 4, none⟩ = some c4 ∧ x.cell? ⟨g, 5, none⟩ = some c5 ∧ x.cell? ⟨g, 6, none⟩ = some c6 ∧ x.cell? ⟨g, 7, none⟩ = some c7 ∧ x.cell? ⟨g, 8, none⟩ = some c8 ∧ x.cell? ⟨g, 9, none⟩ = some c9 ∧ x.cell? ⟨g, 10, none⟩ = some c10 ∧ ∀ i, x.frozen? ⟨g, i, none⟩ = false :=
  ⟨cell_of h 0, cell_of h 1, cell_of h 2, cell_of h 3, cell_of h 4, cell_of h 5, cell_of h 6, cell_of h 7, cell_of h 8, cell_of h 9, cell_of h 10, frozen_of h⟩

theorem store_order (w : World) : (store ⟨w.heap.size, 3, none⟩ (.complex .f64 0 0)).run Tryz.prog (w.alloc orderO) = .ok () ((w.alloc orderO).setCell ⟨w.heap.size, 3, none⟩ (.complex .f64 0 0)) := by
  have h := heap_alloc_new w orderO
  exact store_complex _ 0 0 _ (.complex .f64 0 0) (cell_of h 3) (frozen_of h 3)

theorem grown_set (w : World) (T i : Nat) (v : Value) (y : World) (h : Below w.heap.size (w.setCell ⟨T, i, none⟩ v) y) : w.grownBy y (some T) :=
  ⟨h.os, h.tape, h.output, by have := h.size; simpa using this, fun b hb hne => (h.block b hb).trans (Below.heap_setCell w ⟨T, i, none⟩ v b (fun e => hne (by rw [e])))⟩


set_option maxRecDepth 100000 in
set_option maxHeartbeats 1600000 in
theorem index_nil (f : Value) (w : World) : Calls Tryz.prog 83 #[nilS, f] w fun e w' => e = .returned (.int .i64 (-1)) ∧ w' = w := by
  go_enter Tryz.func83, Tryz.ntmps83
  go_wp2_with fail
  go_loopw [8] (fun i wr => i = .int .i64 0 ∧ wr = w) (fun _ _ => 0)
  case atStart => exact ⟨rfl, rfl⟩
  case round =>
    obtain ⟨rfl, rfl⟩ := hrel
    go_wp2
    go_ret
    exact ⟨rfl, rfl⟩

set_option maxRecDepth 100000 in
set_option maxHeartbeats 1600000 in
theorem order_nil (T : Nat) (w : World) (h0 : w.cell? ⟨T, 0, none⟩ = some nilS) :
    Calls Tryz.prog 51 #[.pointer (some ⟨T, 0, none⟩)] w fun e w' => e = .returned (.tuple #[orderZ, .bool false]) ∧ Below w.heap.size w w' := by
  have hT : T < w.heap.size := block_lt_of_cell h0
  have hso := store_order (w.alloc (.cells #[.pointer (some ⟨T, 0, none⟩)] 31))
  rw [alloc_size] at hso
  go_enter Tryz.func51, Tryz.ntmps51
  go_wp2_with fail
  refine (index_nil _ _).mono ?_
  rintro e w' ⟨rfl, rfl⟩
  go_wp2
  have hresl : Tryz.f51.results = #[.cell 2 37, .tmp 3] := by kernel_rfl
  refine bodyPost_ret (v := .tuple #[orderZ, .bool false]) ?_ rfl ⟨rfl, below_new2 w _ _⟩
  simp only [results, hresl]
  go_simp

set_option maxRecDepth 100000 in
set_option maxHeartbeats 1600000 in
theorem tlook_any (T : Nat) (turns turn : Int) (tb : Value) (next : Int) (on hr : Value) (mode source : Int) (hold : Bool) (flags epoch : Int) (w : World)
    (hT : w.heap[T]? = some (taskB turns turn tb next on hr mode source hold flags epoch)) :
    Calls Tryz.prog 24 #[.pointer (some ⟨T, 0, none⟩)] w fun e w' => e = .returned (.tuple #[callV 9 0 0 0 0 0 0 0 false nilS nilS, .bool true]) ∧
      w'.heap[T]? = some (taskB turns turn tb next on (.func (.func 55) #[] #[.pointer (some ⟨w.heap.size, 0, none⟩)]) mode source hold flags epoch) ∧
      w'.heap[w.heap.size]? = some (.cells #[.pointer (some ⟨T, 0, none⟩)] 31) ∧ w.grownBy w' (some T) := by
  have hTl := block_lt hT
  have hX := alloc_stays (w.alloc (.cells #[.pointer (some ⟨T, 0, none⟩)] 31)) callZ T _ (alloc_stays w (.cells #[.pointer (some ⟨T, 0, none⟩)] 31) T _ hT)
  obtain ⟨t0, t1, t2, t3, t4, t5, t6, t7, t8, t9, t10, t11, t12, t13, t14, t15, tf⟩ := cells16 hX
  have hsf := fun xs ys => store_func ⟨T, 6, none⟩ 55 xs ys _ _ t6 (tf 6)
  have hne1 : ¬ w.heap.size + 1 = T := by omega
  have hne2 : ¬ T = w.heap.size + 1 := by omega
  go_enter Tryz.func24, Tryz.ntmps24
  go_wp2
  have hresl : Tryz.f24.results = #[.cell 2 48, .tmp 3] := by kernel_rfl
  have hs := heap_setCell_same w T 6 _ 88 (.func (.func 55) #[] #[.pointer (some ⟨w.heap.size, 0, none⟩)]) hT
  refine bodyPost_ret (v := .tuple #[callV 9 0 0 0 0 0 0 0 false nilS nilS, .bool true]) ?_ rfl ⟨rfl, alloc_stays _ _ _ _ (alloc_stays _ _ _ _ (by simpa using hs)), ?_, ?_⟩
  · simp only [results, hresl]
    go_simp
  · have h1 := heap_alloc_new (w.setCell ⟨T, 6, none⟩ (.func (.func 55) #[] #[.pointer (some ⟨w.heap.size, 0, none⟩)])) (.cells #[.pointer (some ⟨T, 0, none⟩)] 31)
    rw [World.size_setCell] at h1
    exact alloc_stays _ _ _ _ h1
  · exact grown_set w T 6 _ _ (by have := below_new2 (w.setCell ⟨T, 6, none⟩ (.func (.func 55) #[] #[.pointer (some ⟨w.heap.size, 0, none⟩)])) (.cells #[.pointer (some ⟨T, 0, none⟩)] 31) (.cells #[.int .i64 9, .int .i64 0, .int .i64 0, .int .i64 0, .int .i64 0, .int .i64 0, .int .i64 0, .int .i64 0, .bool false, .slice none 0 0, .slice none 0 0] 48); rwa [World.size_setCell] at this)

set_option maxRecDepth 100000 in
set_option maxHeartbeats 1600000 in
theorem command_nil (T : Nat) (w : World) (h0 : w.cell? ⟨T, 0, none⟩ = some nilS) :
    Calls Tryz.prog 23 #[.pointer (some ⟨T, 0, none⟩)] w fun e w' => e = .returned (.tuple #[callV 7 0 0 0 0 2 0 0 false nilS nilS, .bool false]) ∧ Below w.heap.size w w' := by
  have hT : T < w.heap.size := block_lt_of_cell h0
  have HO := hide (order_nil T (w.alloc callZ) (by rw [← h0]; exact World.cell?_alloc_lt w callZ ⟨T, 0, none⟩ hT))
  have hso := store_order
  go_enter Tryz.func23, Tryz.ntmps23
  go_wp2_with fail
  refine HO.out.mono ?_
  rintro e w1 ⟨rfl, hb1⟩
  have hB := (hb1.block w.heap.size (by simp)).trans (heap_alloc_new w callZ)
  have hO := hso w1
  have hbw := below2 (below_new w callZ) hb1
  obtain ⟨r0, r1, r2, r3, r4, r5, r6, r7, r8, r9, r10, rf⟩ := cells11 hB
  have hN1 : w.heap.size < w1.heap.size := block_lt hB
  have hne1 : ¬ w.heap.size = w1.heap.size := Nat.ne_of_lt hN1
  have hne2 : ¬ w1.heap.size = w.heap.size := fun e => hne1 e.symm
  go_wp2
  have hresl : Tryz.f23.results = #[.cell 2 48, .tmp 3] := by kernel_rfl
  refine bodyPost_ret (v := .tuple #[callV 7 0 0 0 0 2 0 0 false nilS nilS, .bool false]) ?_ rfl ⟨rfl, ?_⟩
  · simp only [results, hresl]
    go_simp
  · exact (((((((((((hbw.setCell (Nat.le_refl _) _).setCell (Nat.le_refl _) _).setCell (Nat.le_refl _) _).setCell (Nat.le_refl _) _).setCell (Nat.le_refl _) _).setCell (Nat.le_refl _) _).setCell (Nat.le_refl _) _).setCell (Nat.le_refl _) _).setCell (Nat.le_refl _) _).setCell (Nat.le_refl _) _).setCell (Nat.le_refl _) _).alloc (by simp; exact Nat.le_of_lt hN1) _

set_option maxRecDepth 100000 in
set_option maxHeartbeats 1600000 in
theorem guard_hover (T : Nat) (turns turn : Int) (tb : Value) (next : Int) (on hr : Value) (source : Int) (hold : Bool) (epoch : Int) (w : World)
    (hT : w.heap[T]? = some (taskB turns turn tb next on hr 3 source hold 0 epoch)) :
    Calls Tryz.prog 27 #[.pointer (some ⟨T, 0, none⟩)] w fun e w' => e = .returned (.tuple #[callV 7 0 0 0 0 3 7 0 false nilS nilS, .bool true]) ∧ Below w.heap.size w w' := by
  obtain ⟨t0, t1, t2, t3, t4, t5, t6, t7, t8, t9, t10, t11, t12, t13, t14, t15, tf⟩ := cells16 hT
  have hTl := block_lt hT
  have HO := hide (fun w h => order_nil T w h)
  have hso := store_order
  go_enter Tryz.func27, Tryz.ntmps27
  go_wp2_with fail
  have hT2 := alloc_stays (w.alloc callZ) (.cells #[.int .i64 7, .int .i64 0, .int .i64 0, .int .i64 0, .int .i64 0, .int .i64 3, .int .i64 0, .int .i64 0, .bool false, .slice none 0 0, .slice none 0 0] 48) T _ (alloc_stays w callZ T _ hT)
  have hC2 := heap_alloc_new (w.alloc callZ) (.cells #[.int .i64 7, .int .i64 0, .int .i64 0, .int .i64 0, .int .i64 0, .int .i64 3, .int .i64 0, .int .i64 0, .bool false, .slice none 0 0, .slice none 0 0] 48)
  have hR2 := alloc_stays (w.alloc callZ) (.cells #[.int .i64 7, .int .i64 0, .int .i64 0, .int .i64 0, .int .i64 0, .int .i64 3, .int .i64 0, .int .i64 0, .bool false, .slice none 0 0, .slice none 0 0] 48) w.heap.size _ (heap_alloc_new w callZ)
  have hb2 := below_new2 w callZ (.cells #[.int .i64 7, .int .i64 0, .int .i64 0, .int .i64 0, .int .i64 0, .int .i64 3, .int .i64 0, .int .i64 0, .bool false, .slice none 0 0, .slice none 0 0] 48)
  rw [alloc_size] at hC2
  refine (HO.out _ (cell_of hT2 0)).mono ?_
  rintro e w1 ⟨rfl, hb1⟩
  have hT3 := (hb1.block T (block_lt hT2)).trans hT2
  have hC3 := (hb1.block (w.heap.size + 1) (block_lt hC2)).trans hC2
  have hR3 := (hb1.block w.heap.size (block_lt hR2)).trans hR2
  have hbw := below2 hb2 hb1
  have hO := hso w1
  clear hT2 hC2 hR2 hso t0 t1 t2 t3 t4 t5 t6 t7 t8 t9 t10 t11 t12 t13 t14 t15 tf
  have hT4 := alloc_stays w1 orderO _ _ hT3
  have hC4 := alloc_stays w1 orderO _ _ hC3
  have hR4 := alloc_stays w1 orderO _ _ hR3
  have hl1 := block_lt hT3
  have hl2 := block_lt hC3
  have hl3 := block_lt hR3
  obtain ⟨t0, t1, t2, t3, t4, t5, t6, t7, t8, t9, t10, t11, t12, t13, t14, t15, tf⟩ := cells16 hT3
  obtain ⟨d0, d1, d2, d3, d4, d5, d6, d7, d8, d9, d10, df⟩ := cells11 hC3
  obtain ⟨r0, r1, r2, r3, r4, r5, r6, r7, r8, r9, r10, rf⟩ := cells11 hR3
  go_wp2_with fail
  go_region
  go_wp2
  have hbt : (bits BinOp.and IntKind.i64 0 5 != 5) = true := by kernel_rfl
  rw [hbt]
  have hresl : Tryz.f27.results = #[.cell 2 48, .tmp 3] := by kernel_rfl
  refine bodyPost_ret (v := .tuple #[callV 7 0 0 0 0 3 7 0 false nilS nilS, .bool true]) ?_ rfl ⟨rfl, ?_⟩
  · simp only [results, hresl]
    go_simp
  · exact (((((((((((((hbw.setCell (Nat.le_succ _) _).setCell (Nat.le_refl _) _).setCell (Nat.le_refl _) _).setCell (Nat.le_refl _) _).setCell (Nat.le_refl _) _).setCell (Nat.le_refl _) _).setCell (Nat.le_refl _) _).setCell (Nat.le_refl _) _).setCell (Nat.le_refl _) _).setCell (Nat.le_refl _) _).setCell (Nat.le_refl _) _).setCell (Nat.le_refl _) _).alloc (by simp; exact Nat.le_of_lt hl3) _).drew

set_option maxRecDepth 100000 in
set_option maxHeartbeats 1600000 in
theorem guard_safe (T : Nat) (turns turn : Int) (tb : Value) (next : Int) (on hr : Value) (source : Int) (hold : Bool) (epoch : Int) (w : World)
    (hT : w.heap[T]? = some (taskB turns turn tb next on hr 7 source hold 0 epoch)) :
    Calls Tryz.prog 27 #[.pointer (some ⟨T, 0, none⟩)] w fun e w' => e = .returned (.tuple #[callV 7 0 0 0 0 3 6 0 true nilS nilS, .bool true]) ∧ Below w.heap.size w w' := by
  obtain ⟨t0, t1, t2, t3, t4, t5, t6, t7, t8, t9, t10, t11, t12, t13, t14, t15, tf⟩ := cells16 hT
  have hTl := block_lt hT
  have HO := hide (fun w h => order_nil T w h)
  have hso := store_order
  go_enter Tryz.func27, Tryz.ntmps27
  go_wp2_with fail
  have hT2 := alloc_stays (w.alloc callZ) (.cells #[.int .i64 7, .int .i64 0, .int .i64 0, .int .i64 0, .int .i64 0, .int .i64 3, .int .i64 0, .int .i64 0, .bool false, .slice none 0 0, .slice none 0 0] 48) T _ (alloc_stays w callZ T _ hT)
  have hC2 := heap_alloc_new (w.alloc callZ) (.cells #[.int .i64 7, .int .i64 0, .int .i64 0, .int .i64 0, .int .i64 0, .int .i64 3, .int .i64 0, .int .i64 0, .bool false, .slice none 0 0, .slice none 0 0] 48)
  have hR2 := alloc_stays (w.alloc callZ) (.cells #[.int .i64 7, .int .i64 0, .int .i64 0, .int .i64 0, .int .i64 0, .int .i64 3, .int .i64 0, .int .i64 0, .bool false, .slice none 0 0, .slice none 0 0] 48) w.heap.size _ (heap_alloc_new w callZ)
  have hb2 := below_new2 w callZ (.cells #[.int .i64 7, .int .i64 0, .int .i64 0, .int .i64 0, .int .i64 0, .int .i64 3, .int .i64 0, .int .i64 0, .bool false, .slice none 0 0, .slice none 0 0] 48)
  rw [alloc_size] at hC2
  refine (HO.out _ (cell_of hT2 0)).mono ?_
  rintro e w1 ⟨rfl, hb1⟩
  have hT3 := (hb1.block T (block_lt hT2)).trans hT2
  have hC3 := (hb1.block (w.heap.size + 1) (block_lt hC2)).trans hC2
  have hR3 := (hb1.block w.heap.size (block_lt hR2)).trans hR2
  have hbw := below2 hb2 hb1
  have hO := hso w1
  clear hT2 hC2 hR2 hso t0 t1 t2 t3 t4 t5 t6 t7 t8 t9 t10 t11 t12 t13 t14 t15 tf
  have hT4 := alloc_stays w1 orderO _ _ hT3
  have hC4 := alloc_stays w1 orderO _ _ hC3
  have hR4 := alloc_stays w1 orderO _ _ hR3
  have hl1 := block_lt hT3
  have hl2 := block_lt hC3
  have hl3 := block_lt hR3
  obtain ⟨t0, t1, t2, t3, t4, t5, t6, t7, t8, t9, t10, t11, t12, t13, t14, t15, tf⟩ := cells16 hT3
  obtain ⟨d0, d1, d2, d3, d4, d5, d6, d7, d8, d9, d10, df⟩ := cells11 hC3
  obtain ⟨r0, r1, r2, r3, r4, r5, r6, r7, r8, r9, r10, rf⟩ := cells11 hR3
  go_wp2
  have hresl : Tryz.f27.results = #[.cell 2 48, .tmp 3] := by kernel_rfl
  refine bodyPost_ret (v := .tuple #[callV 7 0 0 0 0 3 6 0 true nilS nilS, .bool true]) ?_ rfl ⟨rfl, ?_⟩
  · simp only [results, hresl]
    go_simp
  · exact ((((((((((((((hbw.setCell (Nat.le_succ _) _).setCell (Nat.le_succ _) _).setCell (Nat.le_refl _) _).setCell (Nat.le_refl _) _).setCell (Nat.le_refl _) _).setCell (Nat.le_refl _) _).setCell (Nat.le_refl _) _).setCell (Nat.le_refl _) _).setCell (Nat.le_refl _) _).setCell (Nat.le_refl _) _).setCell (Nat.le_refl _) _).setCell (Nat.le_refl _) _).setCell (Nat.le_refl _) _).alloc (by simp; exact Nat.le_of_lt hl3) _)

theorem half_zero : Half 0 0 := ⟨by kernel_rfl, by kernel_rfl, by kernel_rfl, by kernel_rfl, by decide, by decide⟩

set_option maxRecDepth 100000 in
theorem form_any (w : World) : Calls Tryz.prog 79 #[] w fun e w' => e = .returned (.slice (some ⟨w.heap.size, 0, none⟩) 1 1) ∧ w' = w.alloc (.cells #[.int .i64 3, .int .i64 64] 184) := by
  go_enter Tryz.func79, Tryz.ntmps79
  go_wp2
  go_ret
  exact ⟨rfl, rfl⟩

set_option maxRecDepth 100000 in
set_option maxHeartbeats 1600000 in
theorem word_zero (w : World) : Calls Tryz.prog 54 #[z0] w fun e w' => (∃ A n c, e = .returned (.slice A n c)) ∧ Below w.heap.size w w' := by
  have HE := hide (fun v vv w hr hv => encode_ok [(3, 64)] [(0, 0, 0)] [(0, 0)] 1 [setS 32 32 (setS 0 32 0 (uw 0)) (uw 0)] v vv w hr (by decide) (by kernel_rfl) hv rfl ⟨_, ⟨fun _ => ⟨rfl, 0, 0, half_zero, half_zero, rfl⟩, fun h => absurd rfl h, fun h => (by cases h), fun h => absurd rfl h⟩, by decide, rfl⟩)
  have fadd : ∀ w, (binOp .add 35 (.float .f64 0) (.float .f64 0)).run Tryz.prog w = .ok (.float .f64 0) w := fun w => by kernel_rfl
  go_enter Tryz.func54, Tryz.ntmps54
  go_wp2_with fail
  refine (form_any _).mono ?_
  rintro e w' ⟨rfl, rfl⟩
  have hp := below_new2 w (.cells #[.int .i64 3, .int .i64 64] 184) (.cells #[.int .i64 0, .complex .f64 0 0] 165)
  have hr := (Rd.new w [.int .i64 3, .int .i64 64] 184 2 1 rfl (by decide)).alloc (.cells #[.int .i64 0, .complex .f64 0 0] 165)
  have hv := Rd.new (w.alloc (.cells #[.int .i64 3, .int .i64 64] 184)) [.int .i64 0, .complex .f64 0 0] 165 2 1 rfl (by decide)
  rw [alloc_size] at hv
  go_wp2_with fail
  refine (HE.out _ _ _ hr hv).mono ?_
  rintro e w1 ⟨v', rfl, hown, hb1⟩
  obtain ⟨A, cc, rfl, -, -, -⟩ := (Rd.of_own hown).shape
  go_wp2
  go_ret
  exact ⟨⟨_, _, _, rfl⟩, below2 hp hb1⟩

set_option maxRecDepth 100000 in
set_option maxHeartbeats 1600000 in
theorem point_nil (T : Nat) (w : World) (h0 : w.cell? ⟨T, 0, none⟩ = some nilS) :
    Calls Tryz.prog 22 #[.pointer (some ⟨T, 0, none⟩)] w fun e w' => (∃ A n c, e = .returned (.tuple #[callV 1 1 0 0 0 0 0 0 false nilS (.slice A n c), .bool false])) ∧ Below w.heap.size w w' := by
  have hT : T < w.heap.size := block_lt_of_cell h0
  have HO := hide (order_nil T (w.alloc callZ) (by rw [← h0]; exact World.cell?_alloc_lt w callZ ⟨T, 0, none⟩ hT))
  have hso := store_order
  go_enter Tryz.func22, Tryz.ntmps22
  go_wp2_with fail
  refine HO.out.mono ?_
  rintro e w1 ⟨rfl, hb1⟩
  have hB := (hb1.block w.heap.size (by simp)).trans (heap_alloc_new w callZ)
  have hO := hso w1
  have hbw := below3 (below_new w callZ) hb1 (below_new w1 orderO)
  have hB2 := alloc_stays w1 orderO _ _ hB
  go_wp2_with fail
  refine (word_zero _).mono ?_
  rintro e w2 ⟨⟨A, n, c, rfl⟩, hb2⟩
  have hB3 := (hb2.block w.heap.size (block_lt hB2)).trans hB2
  have hbz := below2 hbw hb2
  obtain ⟨r0, r1, r2, r3, r4, r5, r6, r7, r8, r9, r10, rf⟩ := cells11 hB3
  go_wp2
  have hresl : Tryz.f22.results = #[.cell 2 48, .tmp 3] := by kernel_rfl
  refine bodyPost_ret (v := .tuple #[callV 1 1 0 0 0 0 0 0 false nilS (.slice A n c), .bool false]) ?_ rfl ⟨⟨_, _, _, rfl⟩, ?_⟩
  · simp only [results, hresl]
    go_simp
  · exact ((((((((((hbz.setCell (Nat.le_refl _) _).setCell (Nat.le_refl _) _).setCell (Nat.le_refl _) _).setCell (Nat.le_refl _) _).setCell (Nat.le_refl _) _).setCell (Nat.le_refl _) _).setCell (Nat.le_refl _) _).setCell (Nat.le_refl _) _).setCell (Nat.le_refl _) _).setCell (Nat.le_refl _) _).setCell (Nat.le_refl _) _

end Go.Proofs.YtpilfhjlfbjloaaGreatDoor

namespace Go.Proofs.YtpilfhjlfbjloaaGreatDoor
open Go.RowKit
attribute [local irreducible] fI

theorem stays {f : FuncId} {l : Array Value} {w : World} {v : Value} (h : Calls Tryz.prog f l w fun e w' => e = .returned v ∧ w' = w) : Calls Tryz.prog f l w fun e w' => e = .returned v ∧ Below w.heap.size w w' :=
  h.mono fun e w' h => ⟨h.1, by rw [h.2]; exact Below.refl _ _⟩

theorem cells3 {x : World} {g : Nat} {c0 c1 c2 : Value} {t : TypeId} (h : x.heap[g]? = some (.cells #[c0, c1, c2] t)) :
    x.cell? ⟨g, 0, none⟩ = some c0 ∧ x.cell? ⟨g, 1, none⟩ = some c1 ∧ x.cell? ⟨g, 2, none⟩ = some c2 ∧ ∀ i, x.frozen? ⟨g, i, none⟩ = false := by
  refine ⟨?_, ?_, ?_, fun i => ?_⟩ <;> simp [World.cell?, World.frozen?, h]
theorem set3 {x : World} {g : Nat} {c0 c1 c2 : Value} {t : TypeId} (h : x.heap[g]? = some (.cells #[c0, c1, c2] t)) (u0 u1 u2 : Value) :
    (((x.setCell ⟨g, 0, none⟩ u0).setCell ⟨g, 1, none⟩ u1).setCell ⟨g, 2, none⟩ u2).heap[g]? = some (.cells #[u0, u1, u2] t) := by
  have h2 := heap_setCell_same _ g 2 _ t u2 (heap_setCell_same _ g 1 _ t u1 (heap_setCell_same x g 0 _ t u0 h))
  simpa using h2
/-- Three stores of complex numbers into a block of three cells. -/
theorem put3 {x : World} {g : Nat} {c0 c1 c2 : Value} {t : TypeId} (h : x.heap[g]? = some (.cells #[c0, c1, c2] t)) :
    (∀ p q, (store ⟨g, 0, none⟩ (.complex .f64 p q)).run Tryz.prog x = .ok () (x.setCell ⟨g, 0, none⟩ (.complex .f64 p q))) ∧
    (∀ v p q, (store ⟨g, 1, none⟩ (.complex .f64 p q)).run Tryz.prog (x.setCell ⟨g, 0, none⟩ v) = .ok () ((x.setCell ⟨g, 0, none⟩ v).setCell ⟨g, 1, none⟩ (.complex .f64 p q))) ∧
    (∀ v u p q, (store ⟨g, 2, none⟩ (.complex .f64 p q)).run Tryz.prog ((x.setCell ⟨g, 0, none⟩ v).setCell ⟨g, 1, none⟩ u) = .ok () (((x.setCell ⟨g, 0, none⟩ v).setCell ⟨g, 1, none⟩ u).setCell ⟨g, 2, none⟩ (.complex .f64 p q))) := by
  have h1 := fun v => heap_setCell_same x g 0 _ t v h
  have h2 := fun v u => heap_setCell_same _ g 1 _ t u (h1 v)
  refine ⟨fun p q => store_complex _ _ _ _ c0 (by simp [World.cell?, h]) (by simp [World.frozen?, h]), fun v p q => store_complex _ _ _ _ c1 ?_ ?_, fun v u p q => store_complex _ _ _ _ c2 ?_ ?_⟩
  · simp [World.cell?, h1]
  · simp [World.frozen?, h1]
  · simp [World.cell?, h2]
  · simp [World.frozen?, h2]

set_option maxRecDepth 100000 in
set_option maxHeartbeats 800000 in
theorem put_any (p : Pose) (hp : SmP p) {a b : Int} (ha : Sm a) (hb : Sm b) (w : World) : Calls Tryz.prog 82 #[poseV p, cI a b] w fun e w' => e = .returned (poseV { p with ar := a, ai := b }) ∧ Below w.heap.size w w' := by
  have H1 := hide (fun w => stays (nplain_any ha hb w))
  have H2 := hide (fun w => stays (nplain_any hp.gr hp.gi w))
  have H3 := hide (fun w => stays (nplain_any hp.nr hp.ni w))
  obtain ⟨ar, ai, gr, gi, nr, ni⟩ := p
  simp only at H1 H2 H3
  clear hp ha hb
  go_enter Tryz.func82, Tryz.ntmps82
  go_wp2_with fail
  refine wp_region_ext_tail 9 (by kernel_rfl) (by kernel_rfl) (fun _ _ d _ _ h => by cases d <;> exact h) ?_
  simp only [List.take_succ_cons, List.take_zero, List.drop_succ_cons, List.drop_zero]
  repeat (first
    | go_big_quiet_skip
    | (go_big_quiet_want
       first
         | (apply quiet_val
            · intro wq hq
              have hcq := hq.cells
              have hzq := hq.lift
              go_simp
              try go_bits
              first | done | with_reducible rfl
            (try simp only [Act.put, List.setIfInBounds_toArray, List.set_cons_zero, List.set_cons_succ])
            go_big_quiet_on)
         | (apply quiet_call
            · intro wq hq
              have hcq := hq.cells
              have hzq := hq.lift
              go_simp
              first
                | (go_at_call 88; with_reducible exact (H1.out _).mono fun e w' hp => ⟨hp.1, hq.call hp.2⟩)
                | (go_at_call 88; with_reducible exact (H2.out _).mono fun e w' hp => ⟨hp.1, hq.call hp.2⟩)
                | (go_at_call 88; with_reducible exact (H3.out _).mono fun e w' hp => ⟨hp.1, hq.call hp.2⟩)
            (try simp only [Act.put, List.setIfInBounds_toArray, List.set_cons_zero, List.set_cons_succ])
            go_big_quiet_on)))
  refine wpQuiet_nil ?_
  intro wz hz
  have hB : wz.heap[w.heap.size + 1]? = some (.cells #[.complex .f64 0 0, .complex .f64 0 0, .complex .f64 0 0] 83) := (hz.below.block (w.heap.size + 1) (by simp)).trans (by
    have h := heap_alloc_new (w.alloc (.cells #[cI ar ai, cI gr gi, cI nr ni] 83)) (.cells #[.complex .f64 0 0, .complex .f64 0 0, .complex .f64 0 0] 83)
    rwa [World.size_alloc] at h)
  obtain ⟨s0, s1, s2⟩ := put3 hB
  obtain ⟨c0, c1, c2, cf⟩ := cells3 hB
  go_wp2
  have hresl : Tryz.f82.results = #[.cell 4 83] := by kernel_rfl
  refine bodyPost_ret (v := poseV ⟨a, b, gr, gi, nr, ni⟩) ?_ rfl ⟨rfl, ?_⟩
  · simp only [results, hresl]
    go_simp
  · exact (((below_new2 _ _ _).trans (hz.below.mono (by simp; omega))).setCell (Nat.le_succ _) _).setCell (Nat.le_succ _) _ |>.setCell (Nat.le_succ _) _

/-- A pose a tick later, where that may be. -/
def driftP (p : Pose) : Pose := { p with ar := p.ar + p.gr, ai := p.ai + p.gi }

theorem pose_ok {p : Pose} (h : checkP p = 0) : okZ p.ar p.ai = true ∧ okZ p.gr p.gi = true ∧ noseB p.nr p.ni = true := by
  unfold checkP at h
  cases h1 : okZ p.ar p.ai <;> cases h2 : okZ p.gr p.gi <;> cases h3 : noseB p.nr p.ni <;> simp_all
theorem nose_sm {a b : Int} (h : noseB a b = true) : Sm a ∧ Sm b := by
  simp [noseB] at h
  rcases h with ((⟨rfl, rfl⟩ | ⟨rfl, rfl⟩) | ⟨rfl, rfl⟩) | ⟨rfl, rfl⟩ <;> constructor <;> (unfold Sm; decide)
theorem okZ_sm {a b : Int} (h : okZ a b = true) : Sm a ∧ Sm b := by
  simp only [okZ, Bool.and_eq_true] at h
  exact ⟨mayB_sm h.1, mayB_sm h.2⟩
theorem check_sm {p : Pose} (h : checkP p = 0) : SmP p := by
  obtain ⟨h1, h2, h3⟩ := pose_ok h
  exact ⟨(okZ_sm h1).1, (okZ_sm h1).2, (okZ_sm h2).1, (okZ_sm h2).2, (nose_sm h3).1, (nose_sm h3).2⟩

set_option maxRecDepth 100000 in
set_option maxHeartbeats 800000 in
theorem drift_any (p : Pose) (hp : checkP p = 0) (w : World) : Calls Tryz.prog 50 #[poseV p] w fun e w' =>
    e = .returned (if okZ (p.ar + p.gr) (p.ai + p.gi) = true then .tuple #[poseV (driftP p), .int .i64 0] else .tuple #[poseZ, .int .i64 10]) ∧ Below w.heap.size w w' := by
  have hs := check_sm hp
  obtain ⟨h1, h2, h3⟩ := pose_ok hp
  have H1 := hide (fun w => ncheck_any p hs w)
  rw [hp] at H1
  have H2 := hide (fun w => gadd_any h1 h2 w)
  have HS : okZ (p.ar + p.gr) (p.ai + p.gi) = true → SmP (driftP p) := fun h => ⟨(okZ_sm h).1, (okZ_sm h).2, hs.gr, hs.gi, hs.nr, hs.ni⟩
  have H3 := hide (fun (h : okZ (p.ar + p.gr) (p.ai + p.gi) = true) w => put_any p hs (HS h).ar (HS h).ai w)
  obtain ⟨ar, ai, gr, gi, nr, ni⟩ := p
  simp only [driftP] at H1 H2 H3 ⊢
  clear HS hs h1 h2 h3 hp
  cases h : okZ (ar + gr) (ai + gi) with
  | false =>
    rw [h, if_neg (by decide)] at H2
    rw [if_neg (by decide)]
    clear H3
    go_enter Tryz.func50, Tryz.ntmps50
    go_wp2_with fail
    refine (H1.out _).mono ?_
    rintro e w1 ⟨rfl, hb1⟩
    have hP := hb1.block w.heap.size (by simp; omega) |>.trans (alloc_stays _ (.cells #[.complex .f64 0 0, .complex .f64 0 0, .complex .f64 0 0] 83) _ _ (heap_alloc_new w (.cells #[cI ar ai, cI gr gi, cI nr ni] 83)))
    have hR : w1.heap[w.heap.size + 1]? = some (.cells #[.complex .f64 0 0, .complex .f64 0 0, .complex .f64 0 0] 83) := (hb1.block (w.heap.size + 1) (by simp)).trans (by
      have h := heap_alloc_new (w.alloc (.cells #[cI ar ai, cI gr gi, cI nr ni] 83)) (.cells #[.complex .f64 0 0, .complex .f64 0 0, .complex .f64 0 0] 83)
      rwa [World.size_alloc] at h)
    have hbw := below2 (below_new2 w _ _) hb1
    clear hb1
    obtain ⟨c0, c1, c2, cf⟩ := cells3 hP
    go_wp2_with fail
    refine (H2.out _).mono ?_
    rintro e w2 ⟨rfl, hb2⟩
    have hP2 := (hb2.block _ (block_lt hP)).trans hP
    have hR2 := (hb2.block _ (block_lt hR)).trans hR
    have hbz := below2 hbw hb2
    clear hb2 hbw c0 c1 c2 cf hP hR
    obtain ⟨c0, c1, c2, cf⟩ := cells3 hP2
    obtain ⟨d0, d1, d2, df⟩ := cells3 hR2
    obtain ⟨s0, s1, s2⟩ := put3 hR2
    go_wp2
    have hresl : Tryz.f50.results = #[.cell 2 83, .tmp 3] := by kernel_rfl
    refine bodyPost_ret (v := .tuple #[poseZ, .int .i64 10]) ?_ rfl ⟨rfl, ?_⟩
    · simp only [results, hresl]
      go_simp
    · exact ((hbz.setCell (Nat.le_succ _) _).setCell (Nat.le_succ _) _).setCell (Nat.le_succ _) _
  | true =>
    rw [h, if_pos rfl] at H2
    rw [if_pos rfl]
    have H3 := hide (H3.out h)
    go_enter Tryz.func50, Tryz.ntmps50
    go_wp2_with fail
    refine (H1.out _).mono ?_
    rintro e w1 ⟨rfl, hb1⟩
    have hP := hb1.block w.heap.size (by simp; omega) |>.trans (alloc_stays _ (.cells #[.complex .f64 0 0, .complex .f64 0 0, .complex .f64 0 0] 83) _ _ (heap_alloc_new w (.cells #[cI ar ai, cI gr gi, cI nr ni] 83)))
    have hR : w1.heap[w.heap.size + 1]? = some (.cells #[.complex .f64 0 0, .complex .f64 0 0, .complex .f64 0 0] 83) := (hb1.block (w.heap.size + 1) (by simp)).trans (by
      have h := heap_alloc_new (w.alloc (.cells #[cI ar ai, cI gr gi, cI nr ni] 83)) (.cells #[.complex .f64 0 0, .complex .f64 0 0, .complex .f64 0 0] 83)
      rwa [World.size_alloc] at h)
    have hbw := below2 (below_new2 w _ _) hb1
    clear hb1
    obtain ⟨c0, c1, c2, cf⟩ := cells3 hP
    go_wp2_with fail
    refine (H2.out _).mono ?_
    rintro e w2 ⟨rfl, hb2⟩
    have hP2 := (hb2.block _ (block_lt hP)).trans hP
    have hR2 := (hb2.block _ (block_lt hR)).trans hR
    have hbz := below2 hbw hb2
    clear hb2 hbw c0 c1 c2 cf hP hR
    obtain ⟨c0, c1, c2, cf⟩ := cells3 hP2
    obtain ⟨d0, d1, d2, df⟩ := cells3 hR2
    go_wp2_with fail
    refine (H3.out _).mono ?_
    rintro e w3 ⟨rfl, hb3⟩
    have hR3 := (hb3.block _ (block_lt hR2)).trans hR2
    obtain ⟨d0, d1, d2, df⟩ := cells3 hR3
    obtain ⟨s0, s1, s2⟩ := put3 hR3
    go_wp2
    have hresl : Tryz.f50.results = #[.cell 2 83, .tmp 3] := by kernel_rfl
    refine bodyPost_ret (v := .tuple #[poseV ⟨ar + gr, ai + gi, gr, gi, nr, ni⟩, .int .i64 0]) ?_ rfl ⟨rfl, ?_⟩
    · simp only [results, hresl]
      go_simp
    · exact (((below2 hbz hb3).setCell (Nat.le_succ _) _).setCell (Nat.le_succ _) _).setCell (Nat.le_succ _) _

/-- One part of a pose, nearer to a fix. -/
def partI (a b : Int) : Int := a + Int.tdiv ((b - a) * 8) 16

theorem toInt_run {x : Int} (hx : mayB x = true) (w : World) : (convert 35 3 (.float .f64 (fI x))).run Tryz.prog w = .ok (.int .i64 x) w :=
  run_convert_float_int w _ _ .f64 .i64 _ x (by kernel_rfl) (by kernel_rfl) (fI_toInt (by simp [mayB] at hx; omega))
theorem wrap_id {n : Int} (h1 : -9223372036854775808 ≤ n) (h2 : n ≤ 9223372036854775807) : IntKind.i64.wrap n = n := by
  rw [IntKind.wrap_i64]; omega
theorem tdiv_le {n : Int} (h : n.natAbs ≤ 16777216) : (Int.tdiv n 16).natAbs ≤ 1048576 := by
  rw [Int.natAbs_tdiv]
  show n.natAbs / 16 ≤ _
  omega

set_option maxRecDepth 100000 in
set_option maxHeartbeats 800000 in
theorem part_any {a b : Int} (ha : mayB a = true) (hb : mayB b = true) (w : World) (B : Nat) (hB : w.cell? ⟨B, 0, none⟩ = some (.int .i64 8)) :
    Calls Tryz.prog 85 #[.float .f64 (fI a), .float .f64 (fI b), .pointer (some ⟨B, 0, none⟩)] w fun e w' => e = .returned (.float .f64 (fI (partI a b))) ∧ w' = w := by
  have c1 := fun w => toInt_run ha w
  have c2 := fun w => toInt_run hb w
  have h1 := ha
  have h2 := hb
  simp only [mayB, Bool.and_eq_true, decide_eq_true_eq] at h1 h2
  have w1 : IntKind.i64.wrap (b - a) = b - a := wrap_id (by omega) (by omega)
  have w2 : IntKind.i64.wrap ((b - a) * 8) = (b - a) * 8 := wrap_id (by omega) (by omega)
  have hd : (Int.tdiv ((b - a) * 8) 16).natAbs ≤ 1048576 := tdiv_le (by omega)
  have w3 : IntKind.i64.wrap (Int.tdiv ((b - a) * 8) 16) = Int.tdiv ((b - a) * 8) 16 := wrap_id (by omega) (by omega)
  have c3 : ∀ w, (binOp .add 35 (.float .f64 (fI a)) (.float .f64 (floatOfInt .f64 (Int.tdiv ((b - a) * 8) 16)))).run Tryz.prog w = .ok (.float .f64 (fI (partI a b))) w := fun w => by
    rw [fI_ofInt]
    exact fadd_run (mayB_sm ha) (by unfold Sm; omega) w
  clear h1 h2 hd ha hb
  go_enter Tryz.func85, Tryz.ntmps85
  go_wp2
  go_ret
  exact ⟨rfl, rfl⟩

end Go.Proofs.YtpilfhjlfbjloaaGreatDoor
