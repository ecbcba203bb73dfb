/-
  The walks of the steps of tasks: listen, look. Conditions: a task's block. The walks of the steps of tasks: feel, command. Conditions: a task's block, its orders as a slice has them.
-/
import Derived.Test.YtpilfhjlfbjloaaDoorTkB
import Derived.Test.YtpilfhjlfbjloaaDoorTCall
namespace Go.Proofs.YtpilfhjlfbjloaaDoor
open Go.RowKit
attribute [local irreducible] fI

/-- A call of a task. -/
def mkC (kind topic cap rank source mode flags : Int) (free : Bool) (words : List Nat) : Cl := ⟨kind, topic, 0, cap, rank, source, mode, flags, free, [], words.map fun (x : Nat) => (x : Int)⟩
/-- What is done behind an answer: nothing, or one of three things. -/
def HearIs (w : World) (T : Nat) (hr : Value) (h : Nat) : Prop :=
  (h = 0 ∧ hr = .nilFunc) ∨ ∃ B, w.heap[B]? = some (boxO T) ∧ B ≠ T ∧
    ((h = 1 ∧ hr = .func (.func 34) #[] #[.pointer (some ⟨B, 0, none⟩)]) ∨ (h = 2 ∧ hr = .func (.func 41) #[] #[.pointer (some ⟨B, 0, none⟩)]) ∨ (h = 3 ∧ hr = .func (.func 42) #[] #[.pointer (some ⟨B, 0, none⟩)]))
/-- What a step leaves and tells. -/
def StepPost (T : Nat) (ov tb on : Value) (K' : Tk) (kind topic source mode flags : Int) (free : Bool) (ws : List Nat) (is : Bool) (h : Nat) (w : World) (e : Ending) (w' : World) : Prop :=
  ∃ wv hr', e = .returned (.tuple #[callV kind topic 0 0 0 source mode flags free nilS wv, .bool is]) ∧ Rd w' wv 1 ws.length (flatW ws) ∧ (∀ b, wv.ownBlock = some b → w.heap.size ≤ b) ∧ w'.heap[T]? = some (tkO K' ov tb on hr') ∧ HearIs w' T hr' h ∧ w.grownBy w' (some T)

set_option maxRecDepth 100000 in
set_option maxHeartbeats 1600000 in
theorem listen_any (T : Nat) (K : Tk) (ov tb on : Value) (w : World) (hT : w.heap[T]? = some (tkO K ov tb on .nilFunc)) :
    Calls Tryd.prog 22 #[.pointer (some ⟨T, 0, none⟩)] w (StepPost T ov tb on K 2 2 0 0 0 false [] true 1 w) := by
  have hTl := block_lt hT
  have hX := alloc_stays (w.alloc (boxO T)) callZ T _ (alloc_stays w (boxO T) T _ hT)
  obtain ⟨t0, t1, t2, t3, t4, t5, t6, t7, t8, t9, t10, t11, t12, t13, t14, t15, tf⟩ := cells16 hX
  have hsf := fun xs ys => store_func ⟨T, 6, none⟩ 34 xs ys _ _ t6 (tf 6)
  have hne1 : ¬ w.heap.size + 1 = T := by omega
  have hne2 : ¬ T = w.heap.size + 1 := by omega
  go_enter Tryd.func22, Tryd.ntmps22
  go_wp2
  have hresl : Tryd.f22.results = #[.cell 2 41, .tmp 3] := by kernel_rfl
  have hs := heap_setCell_same w T 6 _ 70 (.func (.func 34) #[] #[.pointer (some ⟨w.heap.size, 0, none⟩)]) hT
  have h1 := heap_alloc_new (w.setCell ⟨T, 6, none⟩ (.func (.func 34) #[] #[.pointer (some ⟨w.heap.size, 0, none⟩)])) (boxO T)
  rw [World.size_setCell] at h1
  refine bodyPost_ret (v := .tuple #[callV 2 2 0 0 0 0 0 0 false nilS nilS, .bool true]) ?_ rfl ⟨nilS, _, rfl, Rd.nil _ _, (fun b h => by cases h), alloc_stays _ _ _ _ (alloc_stays _ _ _ _ (by simpa using hs)), .inr ⟨w.heap.size, alloc_stays _ _ _ _ h1, by omega, .inl ⟨rfl, rfl⟩⟩, ?_⟩
  · simp only [results, hresl]
    go_simp
  · exact grown_set w T 6 (.func (.func 34) #[] #[.pointer (some ⟨w.heap.size, 0, none⟩)]) _ (by have := below_new2 (w.setCell ⟨T, 6, none⟩ (.func (.func 34) #[] #[.pointer (some ⟨w.heap.size, 0, none⟩)])) (boxO T) (.cells #[.int .i64 2, .int .i64 2, .int .i64 0, .int .i64 0, .int .i64 0, .int .i64 0, .int .i64 0, .int .i64 0, .bool false, .slice none 0 0, .slice none 0 0] 41); rwa [World.size_setCell] at this)

set_option maxRecDepth 100000 in
set_option maxHeartbeats 1600000 in
theorem look_step (T : Nat) (K : Tk) (ov tb on : Value) (w : World) (hT : w.heap[T]? = some (tkO K ov tb on .nilFunc)) :
    Calls Tryd.prog 27 #[.pointer (some ⟨T, 0, none⟩)] w (StepPost T ov tb on K 9 0 0 0 0 false [] true 2 w) := by
  have hTl := block_lt hT
  have hX := alloc_stays (w.alloc (boxO T)) callZ T _ (alloc_stays w (boxO T) T _ hT)
  obtain ⟨t0, t1, t2, t3, t4, t5, t6, t7, t8, t9, t10, t11, t12, t13, t14, t15, tf⟩ := cells16 hX
  have hsf := fun xs ys => store_func ⟨T, 6, none⟩ 41 xs ys _ _ t6 (tf 6)
  have hne1 : ¬ w.heap.size + 1 = T := by omega
  have hne2 : ¬ T = w.heap.size + 1 := by omega
  go_enter Tryd.func27, Tryd.ntmps27
  go_wp2
  have hresl : Tryd.f27.results = #[.cell 2 41, .tmp 3] := by kernel_rfl
  have hs := heap_setCell_same w T 6 _ 70 (.func (.func 41) #[] #[.pointer (some ⟨w.heap.size, 0, none⟩)]) hT
  have h1 := heap_alloc_new (w.setCell ⟨T, 6, none⟩ (.func (.func 41) #[] #[.pointer (some ⟨w.heap.size, 0, none⟩)])) (boxO T)
  rw [World.size_setCell] at h1
  refine bodyPost_ret (v := .tuple #[callV 9 0 0 0 0 0 0 0 false nilS nilS, .bool true]) ?_ rfl ⟨nilS, _, rfl, Rd.nil _ _, (fun b h => by cases h), alloc_stays _ _ _ _ (alloc_stays _ _ _ _ (by simpa using hs)), .inr ⟨w.heap.size, alloc_stays _ _ _ _ h1, by omega, .inr (.inl ⟨rfl, rfl⟩)⟩, ?_⟩
  · simp only [results, hresl]
    go_simp
  · exact grown_set w T 6 (.func (.func 41) #[] #[.pointer (some ⟨w.heap.size, 0, none⟩)]) _ (by have := below_new2 (w.setCell ⟨T, 6, none⟩ (.func (.func 41) #[] #[.pointer (some ⟨w.heap.size, 0, none⟩)])) (boxO T) (.cells #[.int .i64 9, .int .i64 0, .int .i64 0, .int .i64 0, .int .i64 0, .int .i64 0, .int .i64 0, .int .i64 0, .bool false, .slice none 0 0, .slice none 0 0] 41); rwa [World.size_setCell] at this)

end Go.Proofs.YtpilfhjlfbjloaaDoor

namespace Go.Proofs.YtpilfhjlfbjloaaDoor
open Go.RowKit
attribute [local irreducible] fI

theorem store_last (w : World) (a b c : Value) (p q : Nat) : (store ⟨w.heap.size, 3, none⟩ (.complex .f64 p q)).run Tryd.prog (w.alloc (.cells #[a, b, c, .complex .f64 0 0] 56)) = .ok () (w.alloc (.cells #[a, b, c, .complex .f64 p q] 56)) := by
  obtain ⟨c0, c1, c2, c3, cf⟩ := cells4o (heap_alloc_new w (.cells #[a, b, c, .complex .f64 0 0] 56))
  rw [store_complex _ _ _ _ _ c3 (cf 3)]
  exact congrArg (Result.ok ()) (World.setCell_alloc_new _ _ 3 _)

/-- A step that leaves its task as it was. -/
theorem step_same {T : Nat} {K : Tk} {ov tb on wv : Value} {kind topic source mode flags : Int} {free : Bool} {ws : List Nat} {is : Bool} {w w' : World} (hT : w.heap[T]? = some (tkO K ov tb on .nilFunc)) (hr : Rd w' wv 1 ws.length (flatW ws)) (hf : ∀ b, wv.ownBlock = some b → w.heap.size ≤ b) (hb : Below w.heap.size w w') :
    StepPost T ov tb on K kind topic source mode flags free ws is 0 w (.returned (.tuple #[callV kind topic 0 0 0 source mode flags free nilS wv, .bool is])) w' :=
  ⟨wv, .nilFunc, rfl, hr, hf, (hb.block T (block_lt hT)).trans hT, .inl ⟨rfl, rfl⟩, ⟨hb.os, hb.tape, hb.output, hb.size, fun b hb' _ => hb.block b hb'⟩⟩

/-- The order of a turn, or none. -/
def ordO : Option Ord → Ord
  | some o => o
  | none => ⟨0, 0, 0, 0, 0⟩
theorem ordR_is (x : Option Ord) : ordR x = .tuple #[.agg #[.int .i64 (ordO x).turn, .int .i64 (ordO x).mode, .int .i64 (ordO x).flags, cI (ordO x).re (ordO x).im], .bool x.isSome] := by
  cases x with
  | none => simp [ordR, ordO, fI_zero]
  | some o => rfl

/-- The order's contract at a task's block. -/
theorem order_at (T : Nat) (K : Tk) (ov tb on hr : Value) (w : World) (hT : w.heap[T]? = some (tkO K ov tb on hr)) (hO : Rd w ov 4 K.orders.length (flatO K.orders)) :
    Calls Tryd.prog 37 #[.pointer (some ⟨T, 0, none⟩)] w fun e w' => e = .returned (ordR (ordS K)) ∧ Below w.heap.size w w' :=
  order_any K.orders K.turn ov T w hO (cell_of hT 0) (cell_of hT 2)

theorem rd_set {y : World} {g c n : Nat} {xs : List Value} {b i : Nat} {u : Value} (h : Rd y (.slice (some ⟨g, 0, none⟩) n c) 1 n xs) (hb : b ≠ g) : Rd (y.setCell ⟨b, i, none⟩ u) (.slice (some ⟨g, 0, none⟩) n c) 1 n xs := by
  refine ⟨h.len, some ⟨g, 0, none⟩, c, rfl, ?_⟩
  obtain ⟨A, c', hv, h1, h2, h3⟩ := h.shape
  cases hv
  refine ⟨h1, h2, fun hn => ?_⟩
  obtain ⟨b', o', hA, hl, hc⟩ := h3 hn
  cases hA
  refine ⟨g, 0, rfl, by simpa using hl, fun j x hj => ?_⟩
  rw [World.cell?_setCell_other _ _ _ _ (fun e => hb (congrArg Addr.block e))]
  exact hc j x hj
set_option maxRecDepth 100000 in
set_option maxHeartbeats 1600000 in
theorem feel_any (T : Nat) (K : Tk) (ov tb on : Value) (w : World) (hT : w.heap[T]? = some (tkO K ov tb on .nilFunc)) (hO : Rd w ov 4 K.orders.length (flatO K.orders)) :
    Calls Tryd.prog 24 #[.pointer (some ⟨T, 0, none⟩)] w (StepPost T ov tb on K 8 0 0 0 (ordO (ordS K)).flags false [] (ordS K).isSome 0 w) := by
  have hTl := block_lt hT
  have HO := hide (order_at T K ov tb on .nilFunc (w.alloc callZ) (alloc_stays _ _ _ _ hT) (hO.alloc _))
  rw [ordR_is] at HO
  generalize hX : ordO (ordS K) = X at *
  generalize hY : (ordS K).isSome = Y at *
  obtain ⟨ot, om, of, ore, oim⟩ := X
  simp only at *
  have hso := store_last
  clear hX hY
  go_enter Tryd.func24, Tryd.ntmps24
  go_wp2_with fail
  refine HO.out.mono ?_
  rintro e w1 ⟨rfl, hb1⟩
  have hB := (hb1.block w.heap.size (by simp)).trans (heap_alloc_new w callZ)
  have hTw := (hb1.block T (by simp; omega)).trans (alloc_stays w callZ T _ hT)
  have hbw := below2 (below_new w callZ) hb1
  have hO1 := hso w1 (.int .i64 ot) (.int .i64 om) (.int .i64 of) (fI ore) (fI oim)
  obtain ⟨r0, r1, r2, r3, r4, r5, r6, r7, r8, r9, r10, rf⟩ := cells11 hB
  have hN1 : w.heap.size < w1.heap.size := block_lt hB
  have hne1 : ¬ w.heap.size = w1.heap.size := Nat.ne_of_lt hN1
  have hne2 : ¬ w1.heap.size = w.heap.size := fun e => hne1 e.symm
  go_wp2
  have hresl : Tryd.f24.results = #[.cell 2 41, .tmp 3] := by kernel_rfl
  refine bodyPost_ret (v := .tuple #[callV 8 0 0 0 0 0 0 of false nilS nilS, .bool Y]) ?_ rfl ?_
  · simp only [results, hresl]
    go_simp
  · refine step_same (ws := []) hT (Rd.nil _ 1) (fun b h => by cases h) ?_
    repeat (first | with_reducible exact hbw | (with_reducible refine Below.alloc ?_ ?_ _; rotate_left; focus (simp; omega)) | (with_reducible refine Below.setCell ?_ ?_ _; rotate_left; focus (exact Nat.le_refl _)))

set_option maxRecDepth 100000 in
set_option maxHeartbeats 1600000 in
theorem command_any (T : Nat) (K : Tk) (ov tb on : Value) (w : World) (hT : w.heap[T]? = some (tkO K ov tb on .nilFunc)) (hO : Rd w ov 4 K.orders.length (flatO K.orders)) :
    Calls Tryd.prog 26 #[.pointer (some ⟨T, 0, none⟩)] w (StepPost T ov tb on K 7 0 2 (ordO (ordS K)).mode 0 false [] (ordS K).isSome 0 w) := by
  have hTl := block_lt hT
  have HO := hide (order_at T K ov tb on .nilFunc (w.alloc callZ) (alloc_stays _ _ _ _ hT) (hO.alloc _))
  rw [ordR_is] at HO
  generalize hX : ordO (ordS K) = X at *
  generalize hY : (ordS K).isSome = Y at *
  obtain ⟨ot, om, of, ore, oim⟩ := X
  simp only at *
  have hso := store_last
  clear hX hY
  go_enter Tryd.func26, Tryd.ntmps26
  go_wp2_with fail
  refine HO.out.mono ?_
  rintro e w1 ⟨rfl, hb1⟩
  have hB := (hb1.block w.heap.size (by simp)).trans (heap_alloc_new w callZ)
  have hTw := (hb1.block T (by simp; omega)).trans (alloc_stays w callZ T _ hT)
  have hbw := below2 (below_new w callZ) hb1
  have hO1 := hso w1 (.int .i64 ot) (.int .i64 om) (.int .i64 of) (fI ore) (fI oim)
  obtain ⟨r0, r1, r2, r3, r4, r5, r6, r7, r8, r9, r10, rf⟩ := cells11 hB
  have hN1 : w.heap.size < w1.heap.size := block_lt hB
  have hne1 : ¬ w.heap.size = w1.heap.size := Nat.ne_of_lt hN1
  have hne2 : ¬ w1.heap.size = w.heap.size := fun e => hne1 e.symm
  go_wp2
  have hresl : Tryd.f26.results = #[.cell 2 41, .tmp 3] := by kernel_rfl
  refine bodyPost_ret (v := .tuple #[callV 7 0 0 0 0 2 om 0 false nilS nilS, .bool Y]) ?_ rfl ?_
  · simp only [results, hresl]
    go_simp
  · refine step_same (ws := []) hT (Rd.nil _ 1) (fun b h => by cases h) ?_
    repeat (first | with_reducible exact hbw | (with_reducible refine Below.alloc ?_ ?_ _; rotate_left; focus (simp; omega)) | (with_reducible refine Below.setCell ?_ ?_ _; rotate_left; focus (exact Nat.le_refl _)))

set_option maxRecDepth 100000 in
set_option maxHeartbeats 1600000 in
theorem point_any (T : Nat) (K : Tk) (ov tb on : Value) (w : World) (hT : w.heap[T]? = some (tkO K ov tb on .nilFunc)) (hO : Rd w ov 4 K.orders.length (flatO K.orders)) (hz : okZ (ordO (ordS K)).re (ordO (ordS K)).im = true) :
    Calls Tryd.prog 25 #[.pointer (some ⟨T, 0, none⟩)] w (StepPost T ov tb on K 1 1 0 0 0 false [wordZ (ordO (ordS K)).re (ordO (ordS K)).im] (ordS K).isSome 0 w) := by
  have HW := hide (fun w => word_any (okZ_h hz).1 (okZ_h hz).2 w)
  clear hz
  have hTl := block_lt hT
  have HO := hide (order_at T K ov tb on .nilFunc (w.alloc callZ) (alloc_stays _ _ _ _ hT) (hO.alloc _))
  rw [ordR_is] at HO
  generalize hX : ordO (ordS K) = X at *
  generalize hY : (ordS K).isSome = Y at *
  obtain ⟨ot, om, of, ore, oim⟩ := X
  simp only at *
  have hso := store_last
  clear hX hY
  go_enter Tryd.func25, Tryd.ntmps25
  go_wp2_with fail
  refine HO.out.mono ?_
  rintro e w1 ⟨rfl, hb1⟩
  have hB := (hb1.block w.heap.size (by simp)).trans (heap_alloc_new w callZ)
  have hTw := (hb1.block T (by simp; omega)).trans (alloc_stays w callZ T _ hT)
  have hbw := below2 (below_new w callZ) hb1
  have hO1 := hso w1 (.int .i64 ot) (.int .i64 om) (.int .i64 of) (fI ore) (fI oim)
  obtain ⟨r0, r1, r2, r3, r4, r5, r6, r7, r8, r9, r10, rf⟩ := cells11 hB
  have hN1 : w.heap.size < w1.heap.size := block_lt hB
  have hne1 : ¬ w.heap.size = w1.heap.size := Nat.ne_of_lt hN1
  have hne2 : ¬ w1.heap.size = w.heap.size := fun e => hne1 e.symm
  clear r0 r1 r2 r3 r4 r5 r6 r7 r8 r9 r10 rf
  go_wp2_with fail
  refine (HW.out _).mono ?_
  rintro e w2 ⟨g, c, rfl, hrd, hgw, hb2⟩
  have hbx := below_new w1 (.cells #[.int .i64 ot, .int .i64 om, .int .i64 of, cI ore oim] 56)
  replace hB := (hb2.block _ (by simp; omega)).trans (alloc_stays w1 (.cells #[.int .i64 ot, .int .i64 om, .int .i64 of, cI ore oim] 56) _ _ hB)
  have hbz := below2 (below2 hbw hbx) hb2
  obtain ⟨r0, r1, r2, r3, r4, r5, r6, r7, r8, r9, r10, rf⟩ := cells11 hB
  have hgN : w.heap.size < g := by simp at hgw; omega
  go_wp2
  have hresl : Tryd.f25.results = #[.cell 2 41, .tmp 3] := by kernel_rfl
  refine bodyPost_ret (v := .tuple #[callV 1 1 0 0 0 0 0 0 false nilS (.slice (some ⟨g, 0, none⟩) 1 c), .bool Y]) ?_ rfl ?_
  · simp only [results, hresl]
    go_simp
  · refine step_same (ws := [wordZ ore oim]) hT (show Rd _ _ 1 1 _ from ?_) (fun b h => by cases h; exact Nat.le_of_lt hgN) ?_
    · repeat (first | with_reducible exact hrd | (with_reducible refine Rd.alloc ?_ _) | (with_reducible refine rd_set ?_ ?_; rotate_left; focus (omega)))
    · repeat (first | with_reducible exact hbz | (with_reducible refine Below.alloc ?_ ?_ _; rotate_left; focus (simp; omega)) | (with_reducible refine Below.setCell ?_ ?_ _; rotate_left; focus (exact Nat.le_refl _)))

end Go.Proofs.YtpilfhjlfbjloaaDoor
