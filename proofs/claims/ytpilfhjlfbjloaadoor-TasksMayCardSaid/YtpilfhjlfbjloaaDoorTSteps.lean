/-
  The walks of the steps of tasks without orders, and of call.Same at calls without lists. Conditions: a task's block as it stands.
-/
import Derived.Test.YtpilfhjlfbjloaaDoorEncode
import Derived.Test.YtpilfhjlfbjloaaDoorGet
import Derived.Test.YtpilfhjlfbjloaaDoorBLib
namespace Go.Proofs.YtpilfhjlfbjloaaDoor
open Go.RowKit

abbrev z0 : Value := .complex .f64 0 0
abbrev z1 : Value := .complex .f64 4607182418800017408 0
/-- An order that is none. -/
abbrev orderZ : Value := .agg #[.int .i64 0, .int .i64 0, .int .i64 0, z0]
/-- A call. -/
abbrev callV (kind topic sub cap rank source mode flags : Int) (free : Bool) (set words : Value) : Value := .agg #[.int .i64 kind, .int .i64 topic, .int .i64 sub, .int .i64 cap, .int .i64 rank, .int .i64 source, .int .i64 mode, .int .i64 flags, .bool free, set, words]
abbrev callZ : Obj := .cells #[.int .i64 0, .int .i64 0, .int .i64 0, .int .i64 0, .int .i64 0, .int .i64 0, .int .i64 0, .int .i64 0, .bool false, .slice none 0 0, .slice none 0 0] 41
abbrev orderO : Obj := .cells #[.int .i64 0, .int .i64 0, .int .i64 0, .complex .f64 0 0] 56
theorem alloc_stays (w : World) (o : Obj) (i : Nat) (u : Obj) (h : w.heap[i]? = some u) : (w.alloc o).heap[i]? = some u :=
  ((below_new w o).block i (Array.getElem?_eq_some_iff.1 h).1).trans h
/-- A task's block. -/
abbrev taskB (turns turn : Int) (tb : Value) (next : Int) (on hr : Value) (mode source : Int) (hold : Bool) (flags epoch : Int) : Obj :=
  .cells #[nilS, .int .i64 turns, .int .i64 turn, tb, .int .i64 next, on, hr, z0, z0, z1, z0, .int .i64 mode, .int .i64 source, .bool hold, .int .i64 flags, .int .u64 epoch] 70

theorem cells16 {x : World} {g : Nat} {c0 c1 c2 c3 c4 c5 c6 c7 c8 c9 c10 c11 c12 c13 c14 c15 : Value} {t : TypeId} (h : x.heap[g]? = some (.cells #[c0, c1, c2, c3, c4, c5, c6, c7, c8, c9, c10, c11, c12, c13, c14, c15] t)) :
    x.cell? ⟨g, 0, none⟩ = some c0 ∧ x.cell? ⟨g, 1, none⟩ = some c1 ∧ x.cell? ⟨g, 2, none⟩ = some c2 ∧ x.cell? ⟨g, 3, none⟩ = some c3 ∧ x.cell? ⟨g, 4, none⟩ = some c4 ∧ x.cell? ⟨g, 5, none⟩ = some c5 ∧ x.cell? ⟨g, 6, none⟩ = some c6 ∧ x.cell? ⟨g, 7, none⟩ = some c7 ∧ x.cell? ⟨g, 8, none⟩ = some c8 ∧ x.cell? ⟨g, 9, none⟩ = some c9 ∧ x.cell? ⟨g, 10, none⟩ = some c10 ∧ x.cell? ⟨g, 11, none⟩ = some c11 ∧ x.cell? ⟨g, 12, none⟩ = some c12 ∧ x.cell? ⟨g, 13, none⟩ = some c13 ∧ x.cell? ⟨g, 14, none⟩ = some c14 ∧ x.cell? ⟨g, 15, none⟩ = some c15 ∧ ∀ i, x.frozen? ⟨g, i, none⟩ = false :=
  ⟨cell_of h 0, cell_of h 1, cell_of h 2, cell_of h 3, cell_of h 4, cell_of h 5, cell_of h 6, cell_of h 7, cell_of h 8, cell_of h 9, cell_of h 10, cell_of h 11, cell_of h 12, cell_of h 13, cell_of h 14, cell_of h 15, frozen_of h⟩

theorem cells11 {x : World} {g : Nat} {c0 c1 c2 c3 c4 c5 c6 c7 c8 c9 c10 : Value} {t : TypeId} (h : x.heap[g]? = some (.cells #[c0, c1, c2, c3, c4, c5, c6, c7, c8, c9, c10] t)) :
    x.cell? ⟨g, 0, none⟩ = some c0 ∧ x.cell? ⟨g, 1, none⟩ = some c1 ∧ x.cell? ⟨g, 2, none⟩ = some c2 ∧ x.cell? ⟨g, 3, none⟩ = some c3 ∧ x.cell? ⟨g, 4, none⟩ = some c4 ∧ x.cell? ⟨g, 5, none⟩ = some c5 ∧ x.cell? ⟨g, 6, none⟩ = some c6 ∧ x.cell? ⟨g, 7, none⟩ = some c7 ∧ x.cell? ⟨g, 8, none⟩ = some c8 ∧ x.cell? ⟨g, 9, none⟩ = some c9 ∧ x.cell? ⟨g, 10, none⟩ = some c10 ∧ ∀ i, x.frozen? ⟨g, i, none⟩ = false :=
  ⟨cell_of h 0, cell_of h 1, cell_of h 2, cell_of h 3, cell_of h 4, cell_of h 5, cell_of h 6, cell_of h 7, cell_of h 8, cell_of h 9, cell_of h 10, frozen_of h⟩

theorem store_order (w : World) : (store ⟨w.heap.size, 3, none⟩ (.complex .f64 0 0)).run Tryd.prog (w.alloc orderO) = .ok () ((w.alloc orderO).setCell ⟨w.heap.size, 3, none⟩ (.complex .f64 0 0)) := by
  have h := heap_alloc_new w orderO
  exact store_complex _ 0 0 _ (.complex .f64 0 0) (cell_of h 3) (frozen_of h 3)

theorem grown_set (w : World) (T i : Nat) (v : Value) (y : World) (h : Below w.heap.size (w.setCell ⟨T, i, none⟩ v) y) : w.grownBy y (some T) :=
  ⟨h.os, h.tape, h.output, by have := h.size; simpa using this, fun b hb hne => (h.block b hb).trans (Below.heap_setCell w ⟨T, i, none⟩ v b (fun e => hne (by rw [e])))⟩


set_option maxRecDepth 100000 in
set_option maxHeartbeats 1600000 in
theorem index_nil (f : Value) (w : World) : Calls Tryd.prog 52 #[nilS, f] w fun e w' => e = .returned (.int .i64 (-1)) ∧ w' = w := by
  go_enter Tryd.func52, Tryd.ntmps52
  go_wp2_with fail
  go_loopw [8] (fun i wr => i = .int .i64 0 ∧ wr = w) (fun _ _ => 0)
  case atStart => exact ⟨rfl, rfl⟩
  case round =>
    obtain ⟨rfl, rfl⟩ := hrel
    go_wp2
    go_ret
    exact ⟨rfl, rfl⟩

set_option maxRecDepth 100000 in
set_option maxHeartbeats 1600000 in
theorem order_nil (T : Nat) (w : World) (h0 : w.cell? ⟨T, 0, none⟩ = some nilS) :
    Calls Tryd.prog 37 #[.pointer (some ⟨T, 0, none⟩)] w fun e w' => e = .returned (.tuple #[orderZ, .bool false]) ∧ Below w.heap.size w w' := by
  have hT : T < w.heap.size := block_lt_of_cell h0
  have hso := store_order (w.alloc (.cells #[.pointer (some ⟨T, 0, none⟩)] 28))
  rw [alloc_size] at hso
  go_enter Tryd.func37, Tryd.ntmps37
  go_wp2_with fail
  refine (index_nil _ _).mono ?_
  rintro e w' ⟨rfl, rfl⟩
  go_wp2
  have hresl : Tryd.f37.results = #[.cell 2 56, .tmp 3] := by kernel_rfl
  refine bodyPost_ret (v := .tuple #[orderZ, .bool false]) ?_ rfl ⟨rfl, below_new2 w _ _⟩
  simp only [results, hresl]
  go_simp

set_option maxRecDepth 100000 in
set_option maxHeartbeats 1600000 in
theorem tlook_any (T : Nat) (turns turn : Int) (tb : Value) (next : Int) (on hr : Value) (mode source : Int) (hold : Bool) (flags epoch : Int) (w : World)
    (hT : w.heap[T]? = some (taskB turns turn tb next on hr mode source hold flags epoch)) :
    Calls Tryd.prog 27 #[.pointer (some ⟨T, 0, none⟩)] w fun e w' => e = .returned (.tuple #[callV 9 0 0 0 0 0 0 0 false nilS nilS, .bool true]) ∧
      w'.heap[T]? = some (taskB turns turn tb next on (.func (.func 41) #[] #[.pointer (some ⟨w.heap.size, 0, none⟩)]) mode source hold flags epoch) ∧
      w'.heap[w.heap.size]? = some (.cells #[.pointer (some ⟨T, 0, none⟩)] 28) ∧ w.grownBy w' (some T) := by
  have hTl := block_lt hT
  have hX := alloc_stays (w.alloc (.cells #[.pointer (some ⟨T, 0, none⟩)] 28)) callZ T _ (alloc_stays w (.cells #[.pointer (some ⟨T, 0, none⟩)] 28) T _ hT)
  obtain ⟨t0, t1, t2, t3, t4, t5, t6, t7, t8, t9, t10, t11, t12, t13, t14, t15, tf⟩ := cells16 hX
  have hsf := fun xs ys => store_func ⟨T, 6, none⟩ 41 xs ys _ _ t6 (tf 6)
  have hne1 : ¬ w.heap.size + 1 = T := by omega
  have hne2 : ¬ T = w.heap.size + 1 := by omega
  go_enter Tryd.func27, Tryd.ntmps27
  go_wp2
  have hresl : Tryd.f27.results = #[.cell 2 41, .tmp 3] := by kernel_rfl
  have hs := heap_setCell_same w T 6 _ 70 (.func (.func 41) #[] #[.pointer (some ⟨w.heap.size, 0, none⟩)]) hT
  refine bodyPost_ret (v := .tuple #[callV 9 0 0 0 0 0 0 0 false nilS nilS, .bool true]) ?_ rfl ⟨rfl, alloc_stays _ _ _ _ (alloc_stays _ _ _ _ (by simpa using hs)), ?_, ?_⟩
  · simp only [results, hresl]
    go_simp
  · have h1 := heap_alloc_new (w.setCell ⟨T, 6, none⟩ (.func (.func 41) #[] #[.pointer (some ⟨w.heap.size, 0, none⟩)])) (.cells #[.pointer (some ⟨T, 0, none⟩)] 28)
    rw [World.size_setCell] at h1
    exact alloc_stays _ _ _ _ h1
  · exact grown_set w T 6 _ _ (by have := below_new2 (w.setCell ⟨T, 6, none⟩ (.func (.func 41) #[] #[.pointer (some ⟨w.heap.size, 0, none⟩)])) (.cells #[.pointer (some ⟨T, 0, none⟩)] 28) (.cells #[.int .i64 9, .int .i64 0, .int .i64 0, .int .i64 0, .int .i64 0, .int .i64 0, .int .i64 0, .int .i64 0, .bool false, .slice none 0 0, .slice none 0 0] 41); rwa [World.size_setCell] at this)

set_option maxRecDepth 100000 in
set_option maxHeartbeats 1600000 in
theorem command_nil (T : Nat) (w : World) (h0 : w.cell? ⟨T, 0, none⟩ = some nilS) :
    Calls Tryd.prog 26 #[.pointer (some ⟨T, 0, none⟩)] w fun e w' => e = .returned (.tuple #[callV 7 0 0 0 0 2 0 0 false nilS nilS, .bool false]) ∧ Below w.heap.size w w' := by
  have hT : T < w.heap.size := block_lt_of_cell h0
  have HO := hide (order_nil T (w.alloc callZ) (by rw [← h0]; exact World.cell?_alloc_lt w callZ ⟨T, 0, none⟩ hT))
  have hso := store_order
  go_enter Tryd.func26, Tryd.ntmps26
  go_wp2_with fail
  refine HO.out.mono ?_
  rintro e w1 ⟨rfl, hb1⟩
  have hB := (hb1.block w.heap.size (by simp)).trans (heap_alloc_new w callZ)
  have hO := hso w1
  have hbw := below2 (below_new w callZ) hb1
  obtain ⟨r0, r1, r2, r3, r4, r5, r6, r7, r8, r9, r10, rf⟩ := cells11 hB
  have hN1 : w.heap.size < w1.heap.size := block_lt hB
  have hne1 : ¬ w.heap.size = w1.heap.size := Nat.ne_of_lt hN1
  have hne2 : ¬ w1.heap.size = w.heap.size := fun e => hne1 e.symm
  go_wp2
  have hresl : Tryd.f26.results = #[.cell 2 41, .tmp 3] := by kernel_rfl
  refine bodyPost_ret (v := .tuple #[callV 7 0 0 0 0 2 0 0 false nilS nilS, .bool false]) ?_ rfl ⟨rfl, ?_⟩
  · simp only [results, hresl]
    go_simp
  · exact (((((((((((hbw.setCell (Nat.le_refl _) _).setCell (Nat.le_refl _) _).setCell (Nat.le_refl _) _).setCell (Nat.le_refl _) _).setCell (Nat.le_refl _) _).setCell (Nat.le_refl _) _).setCell (Nat.le_refl _) _).setCell (Nat.le_refl _) _).setCell (Nat.le_refl _) _).setCell (Nat.le_refl _) _).setCell (Nat.le_refl _) _).alloc (by simp; exact Nat.le_of_lt hN1) _

set_option maxRecDepth 100000 in
set_option maxHeartbeats 1600000 in
theorem guard_hover (T : Nat) (turns turn : Int) (tb : Value) (next : Int) (on hr : Value) (source : Int) (hold : Bool) (epoch : Int) (w : World)
    (hT : w.heap[T]? = some (taskB turns turn tb next on hr 3 source hold 0 epoch)) :
    Calls Tryd.prog 30 #[.pointer (some ⟨T, 0, none⟩)] w fun e w' => e = .returned (.tuple #[callV 7 0 0 0 0 3 7 0 false nilS nilS, .bool true]) ∧ Below w.heap.size w w' := by
  obtain ⟨t0, t1, t2, t3, t4, t5, t6, t7, t8, t9, t10, t11, t12, t13, t14, t15, tf⟩ := cells16 hT
  have hTl := block_lt hT
  have HO := hide (fun w h => order_nil T w h)
  have hso := store_order
  go_enter Tryd.func30, Tryd.ntmps30
  go_wp2_with fail
  have hT2 := alloc_stays (w.alloc callZ) (.cells #[.int .i64 7, .int .i64 0, .int .i64 0, .int .i64 0, .int .i64 0, .int .i64 3, .int .i64 0, .int .i64 0, .bool false, .slice none 0 0, .slice none 0 0] 41) T _ (alloc_stays w callZ T _ hT)
  have hC2 := heap_alloc_new (w.alloc callZ) (.cells #[.int .i64 7, .int .i64 0, .int .i64 0, .int .i64 0, .int .i64 0, .int .i64 3, .int .i64 0, .int .i64 0, .bool false, .slice none 0 0, .slice none 0 0] 41)
  have hR2 := alloc_stays (w.alloc callZ) (.cells #[.int .i64 7, .int .i64 0, .int .i64 0, .int .i64 0, .int .i64 0, .int .i64 3, .int .i64 0, .int .i64 0, .bool false, .slice none 0 0, .slice none 0 0] 41) w.heap.size _ (heap_alloc_new w callZ)
  have hb2 := below_new2 w callZ (.cells #[.int .i64 7, .int .i64 0, .int .i64 0, .int .i64 0, .int .i64 0, .int .i64 3, .int .i64 0, .int .i64 0, .bool false, .slice none 0 0, .slice none 0 0] 41)
  rw [alloc_size] at hC2
  refine (HO.out _ (cell_of hT2 0)).mono ?_
  rintro e w1 ⟨rfl, hb1⟩
  have hT3 := (hb1.block T (block_lt hT2)).trans hT2
  have hC3 := (hb1.block (w.heap.size + 1) (block_lt hC2)).trans hC2
  have hR3 := (hb1.block w.heap.size (block_lt hR2)).trans hR2
  have hbw := below2 hb2 hb1
  have hO := hso w1
  clear hT2 hC2 hR2 hso t0 t1 t2 t3 t4 t5 t6 t7 t8 t9 t10 t11 t12 t13 t14 t15 tf
  have hT4 := alloc_stays w1 orderO _ _ hT3
  have hC4 := alloc_stays w1 orderO _ _ hC3
  have hR4 := alloc_stays w1 orderO _ _ hR3
  have hl1 := block_lt hT3
  have hl2 := block_lt hC3
  have hl3 := block_lt hR3
  obtain ⟨t0, t1, t2, t3, t4, t5, t6, t7, t8, t9, t10, t11, t12, t13, t14, t15, tf⟩ := cells16 hT3
  obtain ⟨d0, d1, d2, d3, d4, d5, d6, d7, d8, d9, d10, df⟩ := cells11 hC3
  obtain ⟨r0, r1, r2, r3, r4, r5, r6, r7, r8, r9, r10, rf⟩ := cells11 hR3
  go_wp2_with fail
  go_region
  go_wp2
  have hbt : (bits BinOp.and IntKind.i64 0 5 != 5) = true := by kernel_rfl
  rw [hbt]
  have hresl : Tryd.f30.results = #[.cell 2 41, .tmp 3] := by kernel_rfl
  refine bodyPost_ret (v := .tuple #[callV 7 0 0 0 0 3 7 0 false nilS nilS, .bool true]) ?_ rfl ⟨rfl, ?_⟩
  · simp only [results, hresl]
    go_simp
  · exact (((((((((((((hbw.setCell (Nat.le_succ _) _).setCell (Nat.le_refl _) _).setCell (Nat.le_refl _) _).setCell (Nat.le_refl _) _).setCell (Nat.le_refl _) _).setCell (Nat.le_refl _) _).setCell (Nat.le_refl _) _).setCell (Nat.le_refl _) _).setCell (Nat.le_refl _) _).setCell (Nat.le_refl _) _).setCell (Nat.le_refl _) _).setCell (Nat.le_refl _) _).alloc (by simp; exact Nat.le_of_lt hl3) _).drew

set_option maxRecDepth 100000 in
set_option maxHeartbeats 1600000 in
theorem guard_safe (T : Nat) (turns turn : Int) (tb : Value) (next : Int) (on hr : Value) (source : Int) (hold : Bool) (epoch : Int) (w : World)
    (hT : w.heap[T]? = some (taskB turns turn tb next on hr 7 source hold 0 epoch)) :
    Calls Tryd.prog 30 #[.pointer (some ⟨T, 0, none⟩)] w fun e w' => e = .returned (.tuple #[callV 7 0 0 0 0 3 6 0 true nilS nilS, .bool true]) ∧ Below w.heap.size w w' := by
  obtain ⟨t0, t1, t2, t3, t4, t5, t6, t7, t8, t9, t10, t11, t12, t13, t14, t15, tf⟩ := cells16 hT
  have hTl := block_lt hT
  have HO := hide (fun w h => order_nil T w h)
  have hso := store_order
  go_enter Tryd.func30, Tryd.ntmps30
  go_wp2_with fail
  have hT2 := alloc_stays (w.alloc callZ) (.cells #[.int .i64 7, .int .i64 0, .int .i64 0, .int .i64 0, .int .i64 0, .int .i64 3, .int .i64 0, .int .i64 0, .bool false, .slice none 0 0, .slice none 0 0] 41) T _ (alloc_stays w callZ T _ hT)
  have hC2 := heap_alloc_new (w.alloc callZ) (.cells #[.int .i64 7, .int .i64 0, .int .i64 0, .int .i64 0, .int .i64 0, .int .i64 3, .int .i64 0, .int .i64 0, .bool false, .slice none 0 0, .slice none 0 0] 41)
  have hR2 := alloc_stays (w.alloc callZ) (.cells #[.int .i64 7, .int .i64 0, .int .i64 0, .int .i64 0, .int .i64 0, .int .i64 3, .int .i64 0, .int .i64 0, .bool false, .slice none 0 0, .slice none 0 0] 41) w.heap.size _ (heap_alloc_new w callZ)
  have hb2 := below_new2 w callZ (.cells #[.int .i64 7, .int .i64 0, .int .i64 0, .int .i64 0, .int .i64 0, .int .i64 3, .int .i64 0, .int .i64 0, .bool false, .slice none 0 0, .slice none 0 0] 41)
  rw [alloc_size] at hC2
  refine (HO.out _ (cell_of hT2 0)).mono ?_
  rintro e w1 ⟨rfl, hb1⟩
  have hT3 := (hb1.block T (block_lt hT2)).trans hT2
  have hC3 := (hb1.block (w.heap.size + 1) (block_lt hC2)).trans hC2
  have hR3 := (hb1.block w.heap.size (block_lt hR2)).trans hR2
  have hbw := below2 hb2 hb1
  have hO := hso w1
  clear hT2 hC2 hR2 hso t0 t1 t2 t3 t4 t5 t6 t7 t8 t9 t10 t11 t12 t13 t14 t15 tf
  have hT4 := alloc_stays w1 orderO _ _ hT3
  have hC4 := alloc_stays w1 orderO _ _ hC3
  have hR4 := alloc_stays w1 orderO _ _ hR3
  have hl1 := block_lt hT3
  have hl2 := block_lt hC3
  have hl3 := block_lt hR3
  obtain ⟨t0, t1, t2, t3, t4, t5, t6, t7, t8, t9, t10, t11, t12, t13, t14, t15, tf⟩ := cells16 hT3
  obtain ⟨d0, d1, d2, d3, d4, d5, d6, d7, d8, d9, d10, df⟩ := cells11 hC3
  obtain ⟨r0, r1, r2, r3, r4, r5, r6, r7, r8, r9, r10, rf⟩ := cells11 hR3
  go_wp2
  have hresl : Tryd.f30.results = #[.cell 2 41, .tmp 3] := by kernel_rfl
  refine bodyPost_ret (v := .tuple #[callV 7 0 0 0 0 3 6 0 true nilS nilS, .bool true]) ?_ rfl ⟨rfl, ?_⟩
  · simp only [results, hresl]
    go_simp
  · exact ((((((((((((((hbw.setCell (Nat.le_succ _) _).setCell (Nat.le_succ _) _).setCell (Nat.le_refl _) _).setCell (Nat.le_refl _) _).setCell (Nat.le_refl _) _).setCell (Nat.le_refl _) _).setCell (Nat.le_refl _) _).setCell (Nat.le_refl _) _).setCell (Nat.le_refl _) _).setCell (Nat.le_refl _) _).setCell (Nat.le_refl _) _).setCell (Nat.le_refl _) _).setCell (Nat.le_refl _) _).alloc (by simp; exact Nat.le_of_lt hl3) _)

theorem half_zero : Half 0 0 := ⟨by kernel_rfl, by kernel_rfl, by kernel_rfl, by kernel_rfl, by decide, by decide⟩

set_option maxRecDepth 100000 in
theorem form_any (w : World) : Calls Tryd.prog 48 #[] w fun e w' => e = .returned (.slice (some ⟨w.heap.size, 0, none⟩) 1 1) ∧ w' = w.alloc (.cells #[.int .i64 3, .int .i64 64] 124) := by
  go_enter Tryd.func48, Tryd.ntmps48
  go_wp2
  go_ret
  exact ⟨rfl, rfl⟩

set_option maxRecDepth 100000 in
set_option maxHeartbeats 1600000 in
theorem word_zero (w : World) : Calls Tryd.prog 40 #[z0] w fun e w' => (∃ A n c, e = .returned (.slice A n c)) ∧ Below w.heap.size w w' := by
  have HE := hide (fun v vv w hr hv => encode_ok [(3, 64)] [(0, 0, 0)] [(0, 0)] 1 [setS 32 32 (setS 0 32 0 (uw 0)) (uw 0)] v vv w hr (by decide) (by kernel_rfl) hv rfl ⟨_, ⟨fun _ => ⟨rfl, 0, 0, half_zero, half_zero, rfl⟩, fun h => absurd rfl h, fun h => (by cases h), fun h => absurd rfl h⟩, by decide, rfl⟩)
  have fadd : ∀ w, (binOp .add 80 (.float .f64 0) (.float .f64 0)).run Tryd.prog w = .ok (.float .f64 0) w := fun w => by kernel_rfl
  go_enter Tryd.func40, Tryd.ntmps40
  go_wp2_with fail
  refine (form_any _).mono ?_
  rintro e w' ⟨rfl, rfl⟩
  have hp := below_new2 w (.cells #[.int .i64 3, .int .i64 64] 124) (.cells #[.int .i64 0, .complex .f64 0 0] 110)
  have hr := (Rd.new w [.int .i64 3, .int .i64 64] 124 2 1 rfl (by decide)).alloc (.cells #[.int .i64 0, .complex .f64 0 0] 110)
  have hv := Rd.new (w.alloc (.cells #[.int .i64 3, .int .i64 64] 124)) [.int .i64 0, .complex .f64 0 0] 110 2 1 rfl (by decide)
  rw [alloc_size] at hv
  go_wp2_with fail
  refine (HE.out _ _ _ hr hv).mono ?_
  rintro e w1 ⟨v', rfl, hown, hb1⟩
  obtain ⟨A, cc, rfl, -, -, -⟩ := (Rd.of_own hown).shape
  go_wp2
  go_ret
  exact ⟨⟨_, _, _, rfl⟩, below2 hp hb1⟩

set_option maxRecDepth 100000 in
set_option maxHeartbeats 1600000 in
theorem point_nil (T : Nat) (w : World) (h0 : w.cell? ⟨T, 0, none⟩ = some nilS) :
    Calls Tryd.prog 25 #[.pointer (some ⟨T, 0, none⟩)] w fun e w' => (∃ A n c, e = .returned (.tuple #[callV 1 1 0 0 0 0 0 0 false nilS (.slice A n c), .bool false])) ∧ Below w.heap.size w w' := by
  have hT : T < w.heap.size := block_lt_of_cell h0
  have HO := hide (order_nil T (w.alloc callZ) (by rw [← h0]; exact World.cell?_alloc_lt w callZ ⟨T, 0, none⟩ hT))
  have hso := store_order
  go_enter Tryd.func25, Tryd.ntmps25
  go_wp2_with fail
  refine HO.out.mono ?_
  rintro e w1 ⟨rfl, hb1⟩
  have hB := (hb1.block w.heap.size (by simp)).trans (heap_alloc_new w callZ)
  have hO := hso w1
  have hbw := below3 (below_new w callZ) hb1 (below_new w1 orderO)
  have hB2 := alloc_stays w1 orderO _ _ hB
  go_wp2_with fail
  refine (word_zero _).mono ?_
  rintro e w2 ⟨⟨A, n, c, rfl⟩, hb2⟩
  have hB3 := (hb2.block w.heap.size (block_lt hB2)).trans hB2
  have hbz := below2 hbw hb2
  obtain ⟨r0, r1, r2, r3, r4, r5, r6, r7, r8, r9, r10, rf⟩ := cells11 hB3
  go_wp2
  have hresl : Tryd.f25.results = #[.cell 2 41, .tmp 3] := by kernel_rfl
  refine bodyPost_ret (v := .tuple #[callV 1 1 0 0 0 0 0 0 false nilS (.slice A n c), .bool false]) ?_ rfl ⟨⟨_, _, _, rfl⟩, ?_⟩
  · simp only [results, hresl]
    go_simp
  · exact ((((((((((hbz.setCell (Nat.le_refl _) _).setCell (Nat.le_refl _) _).setCell (Nat.le_refl _) _).setCell (Nat.le_refl _) _).setCell (Nat.le_refl _) _).setCell (Nat.le_refl _) _).setCell (Nat.le_refl _) _).setCell (Nat.le_refl _) _).setCell (Nat.le_refl _) _).setCell (Nat.le_refl _) _).setCell (Nat.le_refl _) _

end Go.Proofs.YtpilfhjlfbjloaaDoor
