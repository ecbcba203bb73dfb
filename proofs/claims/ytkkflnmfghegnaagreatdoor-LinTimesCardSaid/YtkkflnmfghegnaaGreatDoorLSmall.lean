/-
  The walks of an event's methods, of Ahead, and of Check's two questions on pairs. Conditions: none.
-/
import Derived.Test.YtkkflnmfghegnaaGreatDoorLEv
namespace Go.Proofs.YtkkflnmfghegnaaGreatDoor
open Go.RowKit

theorem ret_b {x y : Bool} (h : x = y) : Ending.returned (.bool x) = .returned (.bool y) := by rw [h]

set_option maxRecDepth 100000 in
set_option maxHeartbeats 800000 in
theorem failed_any (a : Em) (w : World) :
    Calls Tryz.prog 46 #[evV a] w fun e w' => e = .returned (.bool (failedB a.e)) ∧ Below w.heap.size w w' := by
  go_enter Tryz.func46, Tryz.ntmps46
  go_wp2
  all_goals (
    go_ret
    exact ⟨ret_b (by simp_all [failedB]), below_new w _⟩)

set_option maxRecDepth 100000 in
set_option maxHeartbeats 1600000 in
theorem timed_any (a : Em) (w : World) :
    Calls Tryz.prog 28 #[evV a] w fun e w' => e = .returned (.bool (timedB a.e)) ∧ Below w.heap.size w w' := by
  go_enter Tryz.func28, Tryz.ntmps28
  go_wp2
  all_goals (
    go_ret
    refine ⟨ret_b ?_, below_new w _⟩
    rw [Bool.eq_iff_iff]
    simp [timedB]
    try omega)

set_option maxRecDepth 100000 in
set_option maxHeartbeats 1600000 in
theorem binding_any (a : Em) (w : World) :
    Calls Tryz.prog 66 #[evV a] w fun e w' => e = .returned (.bool (bindB a.e)) ∧ Below w.heap.size w w' := by
  have HF := hide (fun w' => failed_any a w')
  obtain ⟨v, hv⟩ : ∃ v, v = failedB a.e := ⟨_, rfl⟩
  rw [← hv] at HF
  have hbv : bindB a.e = (a.e.to' != 0 && !v) := by rw [hv]; rfl
  rw [hbv]
  clear hbv hv
  by_cases h1 : a.e.to' = 0
  · go_enter Tryz.func66, Tryz.ntmps66
    go_wp2
    go_ret
    exact ⟨by simp [h1], below_new w _⟩
  · cases v
    all_goals (
      go_enter Tryz.func66, Tryz.ntmps66
      go_wp2_with fail
      refine (HF.out _).mono ?_
      rintro e w1 ⟨rfl, hb1⟩
      have Hb1 := hide (below2 (below_new w _) hb1)
      clear hb1
      go_wp2
      go_ret
      exact ⟨ret_b (by simp_all), Hb1.out⟩)

set_option maxRecDepth 100000 in
set_option maxHeartbeats 1600000 in
theorem ahead_any (a b : Em) (w : World) :
    Calls Tryz.prog 15 #[evV a, evV b] w fun e w' => e = .returned (.bool (aheadB a.e b.e)) ∧ Below w.heap.size w w' := by
  go_enter Tryz.func15, Tryz.ntmps15
  go_wp2
  all_goals (
    go_ret
    refine ⟨ret_b ?_, below_new2 w _ _⟩
    rw [Bool.eq_iff_iff]
    simp [aheadB]
    try omega)

set_option maxRecDepth 100000 in
set_option maxHeartbeats 1600000 in
theorem same_any (a b : Em) (w : World) :
    Calls Tryz.prog 30 #[evV a, evV b] w fun e w' => e = .returned (.bool (sameB a.e b.e)) ∧ Below w.heap.size w w' := by
  go_enter Tryz.func30, Tryz.ntmps30
  go_wp2
  all_goals (
    go_ret
    refine ⟨ret_b ?_, below_new2 w _ _⟩
    simp_all [sameB])

set_option maxRecDepth 100000 in
set_option maxHeartbeats 1600000 in
theorem both_any (a b : Em) (w : World) :
    Calls Tryz.prog 31 #[evV a, evV b] w fun e w' => e = .returned (.bool (bothB a.e b.e)) ∧ Below w.heap.size w w' := by
  have HF := hide (fun w' => ahead_any a b w')
  have HG := hide (fun w' => ahead_any b a w')
  obtain ⟨u, hu⟩ : ∃ v, v = aheadB a.e b.e := ⟨_, rfl⟩
  obtain ⟨v, hv⟩ : ∃ v, v = aheadB b.e a.e := ⟨_, rfl⟩
  rw [← hu] at HF
  rw [← hv] at HG
  have hbv : bothB a.e b.e = (a.e.task == b.e.task && !u && !v) := by rw [hv, hu]; rfl
  rw [hbv]
  clear hbv hv hu
  by_cases h1 : a.e.task = b.e.task
  · cases u
    · cases v
      all_goals (
        go_enter Tryz.func31, Tryz.ntmps31
        go_wp2_with fail
        refine (HF.out _).mono ?_
        rintro e w1 ⟨rfl, hb1⟩
        obtain ⟨L1, L2⟩ := two_ev hb1
        have Hb1 := hide (below2 (below_new2 w _ _) hb1)
        clear hb1
        go_wp2_with fail
        refine (HG.out _).mono ?_
        rintro e w2 ⟨rfl, hb2⟩
        have Hb2 := hide (below2 Hb1.out hb2)
        clear hb2
        go_wp2
        go_ret
        exact ⟨by simp [h1], Hb2.out⟩)
    · go_enter Tryz.func31, Tryz.ntmps31
      go_wp2_with fail
      refine (HF.out _).mono ?_
      rintro e w1 ⟨rfl, hb1⟩
      have Hb1 := hide (below2 (below_new2 w _ _) hb1)
      clear hb1
      go_wp2
      go_ret
      exact ⟨by simp, Hb1.out⟩
  · go_enter Tryz.func31, Tryz.ntmps31
    go_wp2
    go_ret
    exact ⟨by simp [h1], below_new2 w _ _⟩

end Go.Proofs.YtkkflnmfghegnaaGreatDoor
