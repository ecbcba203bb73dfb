/-
  The walk of awake. Conditions: none.
-/
import Derived.Test.YtpilfhjlfbjloaaGreatDoorTNextA
import Derived.Test.YtpilfhjlfbjloaaGreatDoorTNextB
import Derived.Test.YtpilfhjlfbjloaaGreatDoorTNextC
namespace Go.Proofs.YtpilfhjlfbjloaaGreatDoor
open Go.RowKit

theorem keep {w w' : World} {T b : Nat} {o : Obj} (h : w.grownBy w' (some T)) (hb : w.heap[b]? = some o) (hne : b ≠ T) : w'.heap[b]? = some o :=
  (h.block b (block_lt hb) (fun e => hne (Option.some.inj e))).trans hb
theorem grown_lo {w0 w w' : World} {T : Nat} (hb : Below w0.heap.size w0 w) (h : w.grownBy w' (some T)) (hT : w0.heap.size ≤ T) : Below w0.heap.size w0 w' :=
  hb.grown h hb.size (fun q hq => by cases hq; exact hT)

set_option maxRecDepth 100000 in
set_option maxHeartbeats 3200000 in
theorem awake_any (w : World) : Calls Tryz.prog 5 #[] w fun e w' => e = .returned (.bool true) ∧ Below w.heap.size w w' := by
  go_enter Tryz.func5, Tryz.ntmps5
  go_wp2_with fail
  refine (new_fs _).mono ?_
  rintro e W ⟨rfl, hW⟩
  have hT := alloc_stays (w.alloc (taskB 2 0 (.slice (some ⟨w.heap.size + 1, 0, none⟩) 2 2) 0 nilS .nilFunc 0 0 false 0 0)) (.cells #[stepV 24 w.heap.size, stepV 27 w.heap.size] 93) _ _ (heap_alloc_new w _)
  have hF := heap_alloc_new (w.alloc (taskB 2 0 (.slice (some ⟨w.heap.size + 1, 0, none⟩) 2 2) 0 nilS .nilFunc 0 0 false 0 0)) (.cells #[stepV 24 w.heap.size, stepV 27 w.heap.size] 93)
  rw [alloc_size, ← hW] at hF
  rw [← hW] at hT
  have hb : Below w.heap.size w W := by rw [hW]; exact below_new2 w _ _
  have hs : W.heap.size = w.heap.size + 2 := by rw [hW]; simp
  clear hW
  obtain ⟨T, hTe⟩ : ∃ T, T = w.heap.size := ⟨_, rfl⟩
  obtain ⟨F, hFe⟩ : ∃ F, F = w.heap.size + 1 := ⟨_, rfl⟩
  rw [← hFe, ← hTe] at hT
  rw [← hFe, ← hTe] at hF
  rw [← hTe]
  have hTF0 : T < F := by omega
  have hF0 : F < W.heap.size := by omega
  have hTw : w.heap.size ≤ T := by omega
  clear hTe hFe hs
  go_wp2_with fail
  refine (new_cm _).mono ?_
  rintro e W2 ⟨rfl, hW2⟩
  have hU := alloc_stays ((W.alloc (taskB 1 0 (.slice (some ⟨W.heap.size + 1 + 1, 0, none⟩) 3 3) 0 (.slice (some ⟨W.heap.size + 1, 0, none⟩) 1 1) .nilFunc 0 0 false 0 0)).alloc (callO 0 1)) (.cells #[stepV 22 W.heap.size, stepV 23 W.heap.size, stepV 24 W.heap.size] 93) _ _ (alloc_stays (W.alloc (taskB 1 0 (.slice (some ⟨W.heap.size + 1 + 1, 0, none⟩) 3 3) 0 (.slice (some ⟨W.heap.size + 1, 0, none⟩) 1 1) .nilFunc 0 0 false 0 0)) (callO 0 1) _ _ (heap_alloc_new W _))
  have hO := alloc_stays ((W.alloc (taskB 1 0 (.slice (some ⟨W.heap.size + 1 + 1, 0, none⟩) 3 3) 0 (.slice (some ⟨W.heap.size + 1, 0, none⟩) 1 1) .nilFunc 0 0 false 0 0)).alloc (callO 0 1)) (.cells #[stepV 22 W.heap.size, stepV 23 W.heap.size, stepV 24 W.heap.size] 93) _ _ (heap_alloc_new (W.alloc (taskB 1 0 (.slice (some ⟨W.heap.size + 1 + 1, 0, none⟩) 3 3) 0 (.slice (some ⟨W.heap.size + 1, 0, none⟩) 1 1) .nilFunc 0 0 false 0 0)) (callO 0 1))
  have hG := heap_alloc_new ((W.alloc (taskB 1 0 (.slice (some ⟨W.heap.size + 1 + 1, 0, none⟩) 3 3) 0 (.slice (some ⟨W.heap.size + 1, 0, none⟩) 1 1) .nilFunc 0 0 false 0 0)).alloc (callO 0 1)) (.cells #[stepV 22 W.heap.size, stepV 23 W.heap.size, stepV 24 W.heap.size] 93)
  rw [alloc_size, alloc_size, ← hW2] at hG
  rw [alloc_size, ← hW2] at hO
  rw [← hW2] at hU
  have hbW : Below W.heap.size W W2 := by rw [hW2]; exact below2 (below_new2 W _ _) (below_new _ _)
  have hb2 := below2 hb hbW
  have hT2 := (hbW.block T (block_lt hT)).trans hT
  have hF2 := (hbW.block F (block_lt hF)).trans hF
  have hs2 : W2.heap.size = W.heap.size + 3 := by rw [hW2]; simp
  clear hW2 hT hF hbW hb
  obtain ⟨U, hUe⟩ : ∃ U, U = W.heap.size := ⟨_, rfl⟩
  obtain ⟨O, hOe⟩ : ∃ O, O = W.heap.size + 1 := ⟨_, rfl⟩
  obtain ⟨G, hGe⟩ : ∃ G, G = W.heap.size + 1 + 1 := ⟨_, rfl⟩
  rw [← hGe, ← hOe, ← hUe] at hU
  rw [← hGe, ← hUe] at hG
  rw [← hOe] at hO
  rw [← hUe]
  have hFU : F < U := by omega
  have hUO : U < O := by omega
  have hOG : O < G := by omega
  have hGs : G < W2.heap.size := by omega
  clear hUe hOe hGe hs2 hF0
  have hT := hT2
  have hF := hF2
  have hb := hb2
  clear hT2 hF2 hb2
  have hTF : T ≠ F := by omega
  have hUG : U ≠ G := by omega
  go_wp2_with fail
  refine (fs_look T F _ _ _ _ _ _ _ _ _ _ _ hT hF hTF).mono ?_
  rintro e X0 ⟨rfl, B, hTn, hBn, hBT, hg⟩
  have hz0 : W2.heap.size ≤ X0.heap.size := hg.size
  have hFn := keep hg hF (by omega)
  have hUn := keep hg hU (by omega)
  have hGn := keep hg hG (by omega)
  have hOn := keep hg hO (by omega)
  have hbn := grown_lo hb hg (by omega)
  have hb' := below2 hbn (below_new X0 (.cells #[.int .i64 9, .int .i64 0, .int .i64 0, .int .i64 0, .int .i64 0, .int .i64 0, .int .i64 0, .int .i64 0, .bool false, .slice none 0 0, .slice none 0 0] 48))
  have hTm := alloc_stays X0 (.cells #[.int .i64 9, .int .i64 0, .int .i64 0, .int .i64 0, .int .i64 0, .int .i64 0, .int .i64 0, .int .i64 0, .bool false, .slice none 0 0, .slice none 0 0] 48) _ _ hTn
  have hFm := alloc_stays X0 (.cells #[.int .i64 9, .int .i64 0, .int .i64 0, .int .i64 0, .int .i64 0, .int .i64 0, .int .i64 0, .int .i64 0, .bool false, .slice none 0 0, .slice none 0 0] 48) _ _ hFn
  have hUm := alloc_stays X0 (.cells #[.int .i64 9, .int .i64 0, .int .i64 0, .int .i64 0, .int .i64 0, .int .i64 0, .int .i64 0, .int .i64 0, .bool false, .slice none 0 0, .slice none 0 0] 48) _ _ hUn
  have hGm := alloc_stays X0 (.cells #[.int .i64 9, .int .i64 0, .int .i64 0, .int .i64 0, .int .i64 0, .int .i64 0, .int .i64 0, .int .i64 0, .bool false, .slice none 0 0, .slice none 0 0] 48) _ _ hGn
  have hOm := alloc_stays X0 (.cells #[.int .i64 9, .int .i64 0, .int .i64 0, .int .i64 0, .int .i64 0, .int .i64 0, .int .i64 0, .int .i64 0, .bool false, .slice none 0 0, .slice none 0 0] 48) _ _ hOn
  have hBm := alloc_stays X0 (.cells #[.int .i64 9, .int .i64 0, .int .i64 0, .int .i64 0, .int .i64 0, .int .i64 0, .int .i64 0, .int .i64 0, .bool false, .slice none 0 0, .slice none 0 0] 48) _ _ hBn
  have hp1m := heap_alloc_new X0 (.cells #[.int .i64 9, .int .i64 0, .int .i64 0, .int .i64 0, .int .i64 0, .int .i64 0, .int .i64 0, .int .i64 0, .bool false, .slice none 0 0, .slice none 0 0] 48)
  have hy0 : X0.heap.size < (X0.alloc (.cells #[.int .i64 9, .int .i64 0, .int .i64 0, .int .i64 0, .int .i64 0, .int .i64 0, .int .i64 0, .int .i64 0, .bool false, .slice none 0 0, .slice none 0 0] 48)).heap.size := by rw [alloc_size]; exact Nat.lt_succ_self _
  clear hb hg hbn hT hF hU hG hO hTn hFn hUn hGn hOn hBn
  have hT := hTm
  have hF := hFm
  have hU := hUm
  have hG := hGm
  have hO := hOm
  have hp1 := hp1m
  have hB := hBm
  have hb := hb'
  clear hb' hTm hFm hUm hGm hOm hp1m hBm
  go_wp2_with fail
  generalize X0.alloc (.cells #[.int .i64 9, .int .i64 0, .int .i64 0, .int .i64 0, .int .i64 0, .int .i64 0, .int .i64 0, .int .i64 0, .bool false, .slice none 0 0, .slice none 0 0] 48) = V1 at *
  refine (fs_hover T F B _ _ _ _ _ _ _ _ _ hT hF hTF hB).mono ?_
  rintro e X1 ⟨rfl, hTn, hg⟩
  have hz1 : V1.heap.size ≤ X1.heap.size := hg.size
  have hFn := keep hg hF (by omega)
  have hUn := keep hg hU (by omega)
  have hGn := keep hg hG (by omega)
  have hOn := keep hg hO (by omega)
  have hp1n := keep hg hp1 (by omega)
  have hbn := grown_lo hb hg (by omega)
  have hb' := below2 hbn (below_new X1 (.cells #[.int .i64 7, .int .i64 0, .int .i64 0, .int .i64 0, .int .i64 0, .int .i64 3, .int .i64 7, .int .i64 0, .bool false, .slice none 0 0, .slice none 0 0] 48))
  have hTm := alloc_stays X1 (.cells #[.int .i64 7, .int .i64 0, .int .i64 0, .int .i64 0, .int .i64 0, .int .i64 3, .int .i64 7, .int .i64 0, .bool false, .slice none 0 0, .slice none 0 0] 48) _ _ hTn
  have hFm := alloc_stays X1 (.cells #[.int .i64 7, .int .i64 0, .int .i64 0, .int .i64 0, .int .i64 0, .int .i64 3, .int .i64 7, .int .i64 0, .bool false, .slice none 0 0, .slice none 0 0] 48) _ _ hFn
  have hUm := alloc_stays X1 (.cells #[.int .i64 7, .int .i64 0, .int .i64 0, .int .i64 0, .int .i64 0, .int .i64 3, .int .i64 7, .int .i64 0, .bool false, .slice none 0 0, .slice none 0 0] 48) _ _ hUn
  have hGm := alloc_stays X1 (.cells #[.int .i64 7, .int .i64 0, .int .i64 0, .int .i64 0, .int .i64 0, .int .i64 3, .int .i64 7, .int .i64 0, .bool false, .slice none 0 0, .slice none 0 0] 48) _ _ hGn
  have hOm := alloc_stays X1 (.cells #[.int .i64 7, .int .i64 0, .int .i64 0, .int .i64 0, .int .i64 0, .int .i64 3, .int .i64 7, .int .i64 0, .bool false, .slice none 0 0, .slice none 0 0] 48) _ _ hOn
  have hp1m := alloc_stays X1 (.cells #[.int .i64 7, .int .i64 0, .int .i64 0, .int .i64 0, .int .i64 0, .int .i64 3, .int .i64 7, .int .i64 0, .bool false, .slice none 0 0, .slice none 0 0] 48) _ _ hp1n
  have hp2m := heap_alloc_new X1 (.cells #[.int .i64 7, .int .i64 0, .int .i64 0, .int .i64 0, .int .i64 0, .int .i64 3, .int .i64 7, .int .i64 0, .bool false, .slice none 0 0, .slice none 0 0] 48)
  have hy1 : X1.heap.size < (X1.alloc (.cells #[.int .i64 7, .int .i64 0, .int .i64 0, .int .i64 0, .int .i64 0, .int .i64 3, .int .i64 7, .int .i64 0, .bool false, .slice none 0 0, .slice none 0 0] 48)).heap.size := by rw [alloc_size]; exact Nat.lt_succ_self _
  clear hb hg hbn hT hF hU hG hO hp1 hTn hFn hUn hGn hOn hp1n hB
  have hT := hTm
  have hF := hFm
  have hU := hUm
  have hG := hGm
  have hO := hOm
  have hp1 := hp1m
  have hp2 := hp2m
  have hb := hb'
  clear hb' hTm hFm hUm hGm hOm hp1m hp2m
  go_wp2_with fail
  generalize X1.alloc (.cells #[.int .i64 7, .int .i64 0, .int .i64 0, .int .i64 0, .int .i64 0, .int .i64 3, .int .i64 7, .int .i64 0, .bool false, .slice none 0 0, .slice none 0 0] 48) = V2 at *
  refine (fs_roll T F _ _ _ _ _ _ _ _ _ _ _ hT hF hTF).mono ?_
  rintro e X2 ⟨rfl, B2, hTn, hBn, hBT2, hg⟩
  have hz2 : V2.heap.size ≤ X2.heap.size := hg.size
  have hFn := keep hg hF (by omega)
  have hUn := keep hg hU (by omega)
  have hGn := keep hg hG (by omega)
  have hOn := keep hg hO (by omega)
  have hp1n := keep hg hp1 (by omega)
  have hp2n := keep hg hp2 (by omega)
  have hbn := grown_lo hb hg (by omega)
  have hb' := below2 hbn (below_new X2 (.cells #[.int .i64 9, .int .i64 0, .int .i64 0, .int .i64 0, .int .i64 0, .int .i64 0, .int .i64 0, .int .i64 0, .bool false, .slice none 0 0, .slice none 0 0] 48))
  have hTm := alloc_stays X2 (.cells #[.int .i64 9, .int .i64 0, .int .i64 0, .int .i64 0, .int .i64 0, .int .i64 0, .int .i64 0, .int .i64 0, .bool false, .slice none 0 0, .slice none 0 0] 48) _ _ hTn
  have hFm := alloc_stays X2 (.cells #[.int .i64 9, .int .i64 0, .int .i64 0, .int .i64 0, .int .i64 0, .int .i64 0, .int .i64 0, .int .i64 0, .bool false, .slice none 0 0, .slice none 0 0] 48) _ _ hFn
  have hUm := alloc_stays X2 (.cells #[.int .i64 9, .int .i64 0, .int .i64 0, .int .i64 0, .int .i64 0, .int .i64 0, .int .i64 0, .int .i64 0, .bool false, .slice none 0 0, .slice none 0 0] 48) _ _ hUn
  have hGm := alloc_stays X2 (.cells #[.int .i64 9, .int .i64 0, .int .i64 0, .int .i64 0, .int .i64 0, .int .i64 0, .int .i64 0, .int .i64 0, .bool false, .slice none 0 0, .slice none 0 0] 48) _ _ hGn
  have hOm := alloc_stays X2 (.cells #[.int .i64 9, .int .i64 0, .int .i64 0, .int .i64 0, .int .i64 0, .int .i64 0, .int .i64 0, .int .i64 0, .bool false, .slice none 0 0, .slice none 0 0] 48) _ _ hOn
  have hp1m := alloc_stays X2 (.cells #[.int .i64 9, .int .i64 0, .int .i64 0, .int .i64 0, .int .i64 0, .int .i64 0, .int .i64 0, .int .i64 0, .bool false, .slice none 0 0, .slice none 0 0] 48) _ _ hp1n
  have hp2m := alloc_stays X2 (.cells #[.int .i64 9, .int .i64 0, .int .i64 0, .int .i64 0, .int .i64 0, .int .i64 0, .int .i64 0, .int .i64 0, .bool false, .slice none 0 0, .slice none 0 0] 48) _ _ hp2n
  have hBm := alloc_stays X2 (.cells #[.int .i64 9, .int .i64 0, .int .i64 0, .int .i64 0, .int .i64 0, .int .i64 0, .int .i64 0, .int .i64 0, .bool false, .slice none 0 0, .slice none 0 0] 48) _ _ hBn
  have hp3m := heap_alloc_new X2 (.cells #[.int .i64 9, .int .i64 0, .int .i64 0, .int .i64 0, .int .i64 0, .int .i64 0, .int .i64 0, .int .i64 0, .bool false, .slice none 0 0, .slice none 0 0] 48)
  have hy2 : X2.heap.size < (X2.alloc (.cells #[.int .i64 9, .int .i64 0, .int .i64 0, .int .i64 0, .int .i64 0, .int .i64 0, .int .i64 0, .int .i64 0, .bool false, .slice none 0 0, .slice none 0 0] 48)).heap.size := by rw [alloc_size]; exact Nat.lt_succ_self _
  clear hb hg hbn hT hF hU hG hO hp1 hp2 hTn hFn hUn hGn hOn hp1n hp2n hBn
  have hT := hTm
  have hF := hFm
  have hU := hUm
  have hG := hGm
  have hO := hOm
  have hp1 := hp1m
  have hp2 := hp2m
  have hp3 := hp3m
  have hB := hBm
  have hb := hb'
  clear hb' hTm hFm hUm hGm hOm hp1m hp2m hp3m hBm
  go_wp2_with fail
  generalize X2.alloc (.cells #[.int .i64 9, .int .i64 0, .int .i64 0, .int .i64 0, .int .i64 0, .int .i64 0, .int .i64 0, .int .i64 0, .bool false, .slice none 0 0, .slice none 0 0] 48) = V3 at *
  refine (fs_safe T F B2 _ _ _ _ _ _ _ _ _ hT hF hTF hB).mono ?_
  rintro e X3 ⟨rfl, hTn, hg⟩
  have hz3 : V3.heap.size ≤ X3.heap.size := hg.size
  have hFn := keep hg hF (by omega)
  have hUn := keep hg hU (by omega)
  have hGn := keep hg hG (by omega)
  have hOn := keep hg hO (by omega)
  have hp1n := keep hg hp1 (by omega)
  have hp2n := keep hg hp2 (by omega)
  have hp3n := keep hg hp3 (by omega)
  have hbn := grown_lo hb hg (by omega)
  have hb' := below2 hbn (below_new X3 (.cells #[.int .i64 7, .int .i64 0, .int .i64 0, .int .i64 0, .int .i64 0, .int .i64 3, .int .i64 6, .int .i64 0, .bool true, .slice none 0 0, .slice none 0 0] 48))
  have hTm := alloc_stays X3 (.cells #[.int .i64 7, .int .i64 0, .int .i64 0, .int .i64 0, .int .i64 0, .int .i64 3, .int .i64 6, .int .i64 0, .bool true, .slice none 0 0, .slice none 0 0] 48) _ _ hTn
  have hFm := alloc_stays X3 (.cells #[.int .i64 7, .int .i64 0, .int .i64 0, .int .i64 0, .int .i64 0, .int .i64 3, .int .i64 6, .int .i64 0, .bool true, .slice none 0 0, .slice none 0 0] 48) _ _ hFn
  have hUm := alloc_stays X3 (.cells #[.int .i64 7, .int .i64 0, .int .i64 0, .int .i64 0, .int .i64 0, .int .i64 3, .int .i64 6, .int .i64 0, .bool true, .slice none 0 0, .slice none 0 0] 48) _ _ hUn
  have hGm := alloc_stays X3 (.cells #[.int .i64 7, .int .i64 0, .int .i64 0, .int .i64 0, .int .i64 0, .int .i64 3, .int .i64 6, .int .i64 0, .bool true, .slice none 0 0, .slice none 0 0] 48) _ _ hGn
  have hOm := alloc_stays X3 (.cells #[.int .i64 7, .int .i64 0, .int .i64 0, .int .i64 0, .int .i64 0, .int .i64 3, .int .i64 6, .int .i64 0, .bool true, .slice none 0 0, .slice none 0 0] 48) _ _ hOn
  have hp1m := alloc_stays X3 (.cells #[.int .i64 7, .int .i64 0, .int .i64 0, .int .i64 0, .int .i64 0, .int .i64 3, .int .i64 6, .int .i64 0, .bool true, .slice none 0 0, .slice none 0 0] 48) _ _ hp1n
  have hp2m := alloc_stays X3 (.cells #[.int .i64 7, .int .i64 0, .int .i64 0, .int .i64 0, .int .i64 0, .int .i64 3, .int .i64 6, .int .i64 0, .bool true, .slice none 0 0, .slice none 0 0] 48) _ _ hp2n
  have hp3m := alloc_stays X3 (.cells #[.int .i64 7, .int .i64 0, .int .i64 0, .int .i64 0, .int .i64 0, .int .i64 3, .int .i64 6, .int .i64 0, .bool true, .slice none 0 0, .slice none 0 0] 48) _ _ hp3n
  have hp4m := heap_alloc_new X3 (.cells #[.int .i64 7, .int .i64 0, .int .i64 0, .int .i64 0, .int .i64 0, .int .i64 3, .int .i64 6, .int .i64 0, .bool true, .slice none 0 0, .slice none 0 0] 48)
  have hy3 : X3.heap.size < (X3.alloc (.cells #[.int .i64 7, .int .i64 0, .int .i64 0, .int .i64 0, .int .i64 0, .int .i64 3, .int .i64 6, .int .i64 0, .bool true, .slice none 0 0, .slice none 0 0] 48)).heap.size := by rw [alloc_size]; exact Nat.lt_succ_self _
  clear hb hg hbn hT hF hU hG hO hp1 hp2 hp3 hTn hFn hUn hGn hOn hp1n hp2n hp3n hB
  have hT := hTm
  have hF := hFm
  have hU := hUm
  have hG := hGm
  have hO := hOm
  have hp1 := hp1m
  have hp2 := hp2m
  have hp3 := hp3m
  have hp4 := hp4m
  have hb := hb'
  clear hb' hTm hFm hUm hGm hOm hp1m hp2m hp3m hp4m
  go_wp2_with fail
  generalize X3.alloc (.cells #[.int .i64 7, .int .i64 0, .int .i64 0, .int .i64 0, .int .i64 0, .int .i64 3, .int .i64 6, .int .i64 0, .bool true, .slice none 0 0, .slice none 0 0] 48) = V4 at *
  refine (fs_end T F _ _ _ _ _ _ _ _ _ _ _ hT hF hTF).mono ?_
  rintro e X4 ⟨rfl, hTn, hg⟩
  have hz4 : V4.heap.size ≤ X4.heap.size := hg.size
  have hFn := keep hg hF (by omega)
  have hUn := keep hg hU (by omega)
  have hGn := keep hg hG (by omega)
  have hOn := keep hg hO (by omega)
  have hp1n := keep hg hp1 (by omega)
  have hp2n := keep hg hp2 (by omega)
  have hp3n := keep hg hp3 (by omega)
  have hp4n := keep hg hp4 (by omega)
  have hbn := grown_lo hb hg (by omega)
  have hb' := below2 hbn (below_new X4 (.cells #[.int .i64 0, .int .i64 0, .int .i64 0, .int .i64 0, .int .i64 0, .int .i64 0, .int .i64 0, .int .i64 0, .bool false, .slice none 0 0, .slice none 0 0] 48))
  have hTm := alloc_stays X4 (.cells #[.int .i64 0, .int .i64 0, .int .i64 0, .int .i64 0, .int .i64 0, .int .i64 0, .int .i64 0, .int .i64 0, .bool false, .slice none 0 0, .slice none 0 0] 48) _ _ hTn
  have hFm := alloc_stays X4 (.cells #[.int .i64 0, .int .i64 0, .int .i64 0, .int .i64 0, .int .i64 0, .int .i64 0, .int .i64 0, .int .i64 0, .bool false, .slice none 0 0, .slice none 0 0] 48) _ _ hFn
  have hUm := alloc_stays X4 (.cells #[.int .i64 0, .int .i64 0, .int .i64 0, .int .i64 0, .int .i64 0, .int .i64 0, .int .i64 0, .int .i64 0, .bool false, .slice none 0 0, .slice none 0 0] 48) _ _ hUn
  have hGm := alloc_stays X4 (.cells #[.int .i64 0, .int .i64 0, .int .i64 0, .int .i64 0, .int .i64 0, .int .i64 0, .int .i64 0, .int .i64 0, .bool false, .slice none 0 0, .slice none 0 0] 48) _ _ hGn
  have hOm := alloc_stays X4 (.cells #[.int .i64 0, .int .i64 0, .int .i64 0, .int .i64 0, .int .i64 0, .int .i64 0, .int .i64 0, .int .i64 0, .bool false, .slice none 0 0, .slice none 0 0] 48) _ _ hOn
  have hp1m := alloc_stays X4 (.cells #[.int .i64 0, .int .i64 0, .int .i64 0, .int .i64 0, .int .i64 0, .int .i64 0, .int .i64 0, .int .i64 0, .bool false, .slice none 0 0, .slice none 0 0] 48) _ _ hp1n
  have hp2m := alloc_stays X4 (.cells #[.int .i64 0, .int .i64 0, .int .i64 0, .int .i64 0, .int .i64 0, .int .i64 0, .int .i64 0, .int .i64 0, .bool false, .slice none 0 0, .slice none 0 0] 48) _ _ hp2n
  have hp3m := alloc_stays X4 (.cells #[.int .i64 0, .int .i64 0, .int .i64 0, .int .i64 0, .int .i64 0, .int .i64 0, .int .i64 0, .int .i64 0, .bool false, .slice none 0 0, .slice none 0 0] 48) _ _ hp3n
  have hp4m := alloc_stays X4 (.cells #[.int .i64 0, .int .i64 0, .int .i64 0, .int .i64 0, .int .i64 0, .int .i64 0, .int .i64 0, .int .i64 0, .bool false, .slice none 0 0, .slice none 0 0] 48) _ _ hp4n
  have hp5m := heap_alloc_new X4 (.cells #[.int .i64 0, .int .i64 0, .int .i64 0, .int .i64 0, .int .i64 0, .int .i64 0, .int .i64 0, .int .i64 0, .bool false, .slice none 0 0, .slice none 0 0] 48)
  have hy4 : X4.heap.size < (X4.alloc (.cells #[.int .i64 0, .int .i64 0, .int .i64 0, .int .i64 0, .int .i64 0, .int .i64 0, .int .i64 0, .int .i64 0, .bool false, .slice none 0 0, .slice none 0 0] 48)).heap.size := by rw [alloc_size]; exact Nat.lt_succ_self _
  clear hb hg hbn hT hF hU hG hO hp1 hp2 hp3 hp4 hTn hFn hUn hGn hOn hp1n hp2n hp3n hp4n
  have hT := hTm
  have hF := hFm
  have hU := hUm
  have hG := hGm
  have hO := hOm
  have hp1 := hp1m
  have hp2 := hp2m
  have hp3 := hp3m
  have hp4 := hp4m
  have hp5 := hp5m
  have hb := hb'
  clear hb' hTm hFm hUm hGm hOm hp1m hp2m hp3m hp4m hp5m
  obtain ⟨p10, p11, p12, p13, p14, p15, p16, p17, p18, p19, p110, p1f⟩ := cells11 hp1
  obtain ⟨p20, p21, p22, p23, p24, p25, p26, p27, p28, p29, p210, p2f⟩ := cells11 hp2
  obtain ⟨p30, p31, p32, p33, p34, p35, p36, p37, p38, p39, p310, p3f⟩ := cells11 hp3
  obtain ⟨p40, p41, p42, p43, p44, p45, p46, p47, p48, p49, p410, p4f⟩ := cells11 hp4
  go_wp2_with fail
  clear p10 p11 p12 p13 p14 p15 p16 p17 p18 p19 p110 p1f
  clear p20 p21 p22 p23 p24 p25 p26 p27 p28 p29 p210 p2f
  clear p30 p31 p32 p33 p34 p35 p36 p37 p38 p39 p310 p3f
  clear p40 p41 p42 p43 p44 p45 p46 p47 p48 p49 p410 p4f
  generalize X4.alloc (.cells #[.int .i64 0, .int .i64 0, .int .i64 0, .int .i64 0, .int .i64 0, .int .i64 0, .int .i64 0, .int .i64 0, .bool false, .slice none 0 0, .slice none 0 0] 48) = V5 at *
  refine (cm_once U G _ _ _ _ _ O _ _ _ _ _ _ hU hG hO).mono ?_
  rintro e X5 ⟨rfl, hUn, hg⟩
  have hz5 : V5.heap.size ≤ X5.heap.size := hg.size
  have hTn := keep hg hT (by omega)
  have hFn := keep hg hF (by omega)
  have hGn := keep hg hG (by omega)
  have hOn := keep hg hO (by omega)
  have hp1n := keep hg hp1 (by omega)
  have hp2n := keep hg hp2 (by omega)
  have hp3n := keep hg hp3 (by omega)
  have hp4n := keep hg hp4 (by omega)
  have hp5n := keep hg hp5 (by omega)
  have hbn := grown_lo hb hg (by omega)
  have hb' := below2 hbn (below_new X5 (.cells #[.int .i64 0, .int .i64 1, .int .i64 0, .int .i64 0, .int .i64 0, .int .i64 0, .int .i64 0, .int .i64 0, .bool false, .slice none 0 0, .slice none 0 0] 48))
  have hTm := alloc_stays X5 (.cells #[.int .i64 0, .int .i64 1, .int .i64 0, .int .i64 0, .int .i64 0, .int .i64 0, .int .i64 0, .int .i64 0, .bool false, .slice none 0 0, .slice none 0 0] 48) _ _ hTn
  have hFm := alloc_stays X5 (.cells #[.int .i64 0, .int .i64 1, .int .i64 0, .int .i64 0, .int .i64 0, .int .i64 0, .int .i64 0, .int .i64 0, .bool false, .slice none 0 0, .slice none 0 0] 48) _ _ hFn
  have hUm := alloc_stays X5 (.cells #[.int .i64 0, .int .i64 1, .int .i64 0, .int .i64 0, .int .i64 0, .int .i64 0, .int .i64 0, .int .i64 0, .bool false, .slice none 0 0, .slice none 0 0] 48) _ _ hUn
  have hGm := alloc_stays X5 (.cells #[.int .i64 0, .int .i64 1, .int .i64 0, .int .i64 0, .int .i64 0, .int .i64 0, .int .i64 0, .int .i64 0, .bool false, .slice none 0 0, .slice none 0 0] 48) _ _ hGn
  have hOm := alloc_stays X5 (.cells #[.int .i64 0, .int .i64 1, .int .i64 0, .int .i64 0, .int .i64 0, .int .i64 0, .int .i64 0, .int .i64 0, .bool false, .slice none 0 0, .slice none 0 0] 48) _ _ hOn
  have hp1m := alloc_stays X5 (.cells #[.int .i64 0, .int .i64 1, .int .i64 0, .int .i64 0, .int .i64 0, .int .i64 0, .int .i64 0, .int .i64 0, .bool false, .slice none 0 0, .slice none 0 0] 48) _ _ hp1n
  have hp2m := alloc_stays X5 (.cells #[.int .i64 0, .int .i64 1, .int .i64 0, .int .i64 0, .int .i64 0, .int .i64 0, .int .i64 0, .int .i64 0, .bool false, .slice none 0 0, .slice none 0 0] 48) _ _ hp2n
  have hp3m := alloc_stays X5 (.cells #[.int .i64 0, .int .i64 1, .int .i64 0, .int .i64 0, .int .i64 0, .int .i64 0, .int .i64 0, .int .i64 0, .bool false, .slice none 0 0, .slice none 0 0] 48) _ _ hp3n
  have hp4m := alloc_stays X5 (.cells #[.int .i64 0, .int .i64 1, .int .i64 0, .int .i64 0, .int .i64 0, .int .i64 0, .int .i64 0, .int .i64 0, .bool false, .slice none 0 0, .slice none 0 0] 48) _ _ hp4n
  have hp5m := alloc_stays X5 (.cells #[.int .i64 0, .int .i64 1, .int .i64 0, .int .i64 0, .int .i64 0, .int .i64 0, .int .i64 0, .int .i64 0, .bool false, .slice none 0 0, .slice none 0 0] 48) _ _ hp5n
  have hp6m := heap_alloc_new X5 (.cells #[.int .i64 0, .int .i64 1, .int .i64 0, .int .i64 0, .int .i64 0, .int .i64 0, .int .i64 0, .int .i64 0, .bool false, .slice none 0 0, .slice none 0 0] 48)
  have hy5 : X5.heap.size < (X5.alloc (.cells #[.int .i64 0, .int .i64 1, .int .i64 0, .int .i64 0, .int .i64 0, .int .i64 0, .int .i64 0, .int .i64 0, .bool false, .slice none 0 0, .slice none 0 0] 48)).heap.size := by rw [alloc_size]; exact Nat.lt_succ_self _
  clear hb hg hbn hT hF hU hG hO hp1 hp2 hp3 hp4 hp5 hTn hFn hUn hGn hOn hp1n hp2n hp3n hp4n hp5n
  have hT := hTm
  have hF := hFm
  have hU := hUm
  have hG := hGm
  have hO := hOm
  have hp1 := hp1m
  have hp2 := hp2m
  have hp3 := hp3m
  have hp4 := hp4m
  have hp5 := hp5m
  have hp6 := hp6m
  have hb := hb'
  clear hb' hTm hFm hUm hGm hOm hp1m hp2m hp3m hp4m hp5m hp6m
  go_wp2_with fail
  generalize X5.alloc (.cells #[.int .i64 0, .int .i64 1, .int .i64 0, .int .i64 0, .int .i64 0, .int .i64 0, .int .i64 0, .int .i64 0, .bool false, .slice none 0 0, .slice none 0 0] 48) = V6 at *
  refine (cm_first U G _ _ _ _ _ O _ _ _ _ _ _ hU hG hUG).mono ?_
  rintro e X6 ⟨rfl, B3, hUn, hBn, hBU, hg⟩
  have hz6 : V6.heap.size ≤ X6.heap.size := hg.size
  have hTn := keep hg hT (by omega)
  have hFn := keep hg hF (by omega)
  have hGn := keep hg hG (by omega)
  have hOn := keep hg hO (by omega)
  have hp1n := keep hg hp1 (by omega)
  have hp2n := keep hg hp2 (by omega)
  have hp3n := keep hg hp3 (by omega)
  have hp4n := keep hg hp4 (by omega)
  have hp5n := keep hg hp5 (by omega)
  have hp6n := keep hg hp6 (by omega)
  have hbn := grown_lo hb hg (by omega)
  have hb' := below2 hbn (below_new X6 (.cells #[.int .i64 9, .int .i64 0, .int .i64 0, .int .i64 0, .int .i64 0, .int .i64 0, .int .i64 0, .int .i64 0, .bool false, .slice none 0 0, .slice none 0 0] 48))
  have hTm := alloc_stays X6 (.cells #[.int .i64 9, .int .i64 0, .int .i64 0, .int .i64 0, .int .i64 0, .int .i64 0, .int .i64 0, .int .i64 0, .bool false, .slice none 0 0, .slice none 0 0] 48) _ _ hTn
  have hFm := alloc_stays X6 (.cells #[.int .i64 9, .int .i64 0, .int .i64 0, .int .i64 0, .int .i64 0, .int .i64 0, .int .i64 0, .int .i64 0, .bool false, .slice none 0 0, .slice none 0 0] 48) _ _ hFn
  have hUm := alloc_stays X6 (.cells #[.int .i64 9, .int .i64 0, .int .i64 0, .int .i64 0, .int .i64 0, .int .i64 0, .int .i64 0, .int .i64 0, .bool false, .slice none 0 0, .slice none 0 0] 48) _ _ hUn
  have hGm := alloc_stays X6 (.cells #[.int .i64 9, .int .i64 0, .int .i64 0, .int .i64 0, .int .i64 0, .int .i64 0, .int .i64 0, .int .i64 0, .bool false, .slice none 0 0, .slice none 0 0] 48) _ _ hGn
  have hOm := alloc_stays X6 (.cells #[.int .i64 9, .int .i64 0, .int .i64 0, .int .i64 0, .int .i64 0, .int .i64 0, .int .i64 0, .int .i64 0, .bool false, .slice none 0 0, .slice none 0 0] 48) _ _ hOn
  have hp1m := alloc_stays X6 (.cells #[.int .i64 9, .int .i64 0, .int .i64 0, .int .i64 0, .int .i64 0, .int .i64 0, .int .i64 0, .int .i64 0, .bool false, .slice none 0 0, .slice none 0 0] 48) _ _ hp1n
  have hp2m := alloc_stays X6 (.cells #[.int .i64 9, .int .i64 0, .int .i64 0, .int .i64 0, .int .i64 0, .int .i64 0, .int .i64 0, .int .i64 0, .bool false, .slice none 0 0, .slice none 0 0] 48) _ _ hp2n
  have hp3m := alloc_stays X6 (.cells #[.int .i64 9, .int .i64 0, .int .i64 0, .int .i64 0, .int .i64 0, .int .i64 0, .int .i64 0, .int .i64 0, .bool false, .slice none 0 0, .slice none 0 0] 48) _ _ hp3n
  have hp4m := alloc_stays X6 (.cells #[.int .i64 9, .int .i64 0, .int .i64 0, .int .i64 0, .int .i64 0, .int .i64 0, .int .i64 0, .int .i64 0, .bool false, .slice none 0 0, .slice none 0 0] 48) _ _ hp4n
  have hp5m := alloc_stays X6 (.cells #[.int .i64 9, .int .i64 0, .int .i64 0, .int .i64 0, .int .i64 0, .int .i64 0, .int .i64 0, .int .i64 0, .bool false, .slice none 0 0, .slice none 0 0] 48) _ _ hp5n
  have hp6m := alloc_stays X6 (.cells #[.int .i64 9, .int .i64 0, .int .i64 0, .int .i64 0, .int .i64 0, .int .i64 0, .int .i64 0, .int .i64 0, .bool false, .slice none 0 0, .slice none 0 0] 48) _ _ hp6n
  have hBm := alloc_stays X6 (.cells #[.int .i64 9, .int .i64 0, .int .i64 0, .int .i64 0, .int .i64 0, .int .i64 0, .int .i64 0, .int .i64 0, .bool false, .slice none 0 0, .slice none 0 0] 48) _ _ hBn
  have hp7m := heap_alloc_new X6 (.cells #[.int .i64 9, .int .i64 0, .int .i64 0, .int .i64 0, .int .i64 0, .int .i64 0, .int .i64 0, .int .i64 0, .bool false, .slice none 0 0, .slice none 0 0] 48)
  have hy6 : X6.heap.size < (X6.alloc (.cells #[.int .i64 9, .int .i64 0, .int .i64 0, .int .i64 0, .int .i64 0, .int .i64 0, .int .i64 0, .int .i64 0, .bool false, .slice none 0 0, .slice none 0 0] 48)).heap.size := by rw [alloc_size]; exact Nat.lt_succ_self _
  clear hb hg hbn hT hF hU hG hO hp1 hp2 hp3 hp4 hp5 hp6 hTn hFn hUn hGn hOn hp1n hp2n hp3n hp4n hp5n hp6n hBn
  have hT := hTm
  have hF := hFm
  have hU := hUm
  have hG := hGm
  have hO := hOm
  have hp1 := hp1m
  have hp2 := hp2m
  have hp3 := hp3m
  have hp4 := hp4m
  have hp5 := hp5m
  have hp6 := hp6m
  have hp7 := hp7m
  have hB := hBm
  have hb := hb'
  clear hb' hTm hFm hUm hGm hOm hp1m hp2m hp3m hp4m hp5m hp6m hp7m hBm
  go_wp2_with fail
  generalize X6.alloc (.cells #[.int .i64 9, .int .i64 0, .int .i64 0, .int .i64 0, .int .i64 0, .int .i64 0, .int .i64 0, .int .i64 0, .bool false, .slice none 0 0, .slice none 0 0] 48) = V7 at *
  refine (cm_end U G B3 _ _ _ _ _ O _ hU hG hUG hB).mono ?_
  rintro e X7 ⟨rfl, hUn, hg⟩
  have hz7 : V7.heap.size ≤ X7.heap.size := hg.size
  have hTn := keep hg hT (by omega)
  have hFn := keep hg hF (by omega)
  have hGn := keep hg hG (by omega)
  have hOn := keep hg hO (by omega)
  have hp1n := keep hg hp1 (by omega)
  have hp2n := keep hg hp2 (by omega)
  have hp3n := keep hg hp3 (by omega)
  have hp4n := keep hg hp4 (by omega)
  have hp5n := keep hg hp5 (by omega)
  have hp6n := keep hg hp6 (by omega)
  have hp7n := keep hg hp7 (by omega)
  have hbn := grown_lo hb hg (by omega)
  clear hb hg hT hF hU hG hO hp1 hp2 hp3 hp4 hp5 hp6 hp7 hB
  obtain ⟨p10, p11, p12, p13, p14, p15, p16, p17, p18, p19, p110, p1f⟩ := cells11 hp1n
  obtain ⟨p20, p21, p22, p23, p24, p25, p26, p27, p28, p29, p210, p2f⟩ := cells11 hp2n
  obtain ⟨p30, p31, p32, p33, p34, p35, p36, p37, p38, p39, p310, p3f⟩ := cells11 hp3n
  obtain ⟨p40, p41, p42, p43, p44, p45, p46, p47, p48, p49, p410, p4f⟩ := cells11 hp4n
  obtain ⟨p50, p51, p52, p53, p54, p55, p56, p57, p58, p59, p510, p5f⟩ := cells11 hp5n
  obtain ⟨p60, p61, p62, p63, p64, p65, p66, p67, p68, p69, p610, p6f⟩ := cells11 hp6n
  obtain ⟨p70, p71, p72, p73, p74, p75, p76, p77, p78, p79, p710, p7f⟩ := cells11 hp7n
  go_wp2
  go_ret
  exact ⟨by simp, hbn⟩

end Go.Proofs.YtpilfhjlfbjloaaGreatDoor
