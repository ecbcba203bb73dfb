/-
  The walk of the reference's Decide, all of it. Conditions: a register that may be.
-/
import Derived.Test.YtclgmikdjcjjdaaGreatDoorBRef14F
namespace Go.Proofs.YtclgmikdjcjjdaaGreatDoor
open Go.RowKit

set_option maxRecDepth 100000 in
set_option maxHeartbeats 6400000 in
theorem rdecide14_any (r : Rg) (hr : r.fit) (src mode : Int) (free : Bool) (w : World) :
    Calls Tryz.prog 38 #[rgV r, .agg #[.int .i64 src, .int .i64 mode, .bool free]] w fun e w' => e = .returned (.tuple #[rgV (decideS r src mode free).1, .int .i64 (decideS r src mode free).2]) ∧ Below w.heap.size w w' := by
  obtain ⟨m, s, h, f, p⟩ := r
  by_cases c0 : src < 0
  · have HD := hide (decide_no (free := free) (show askS ⟨m, s, h, f, p⟩ src mode = 10 by unfold askS sourceB; rw [if_pos (by simp; omega)]) (by decide))
    have M := hide (fun w => rright_any ⟨m, s, h, f, p⟩ hr w)
    clear hr
    go_enter Tryz.func38, Tryz.ntmps38
    go_wp2_with fail
    refine (M.out _).mono ?_
    rintro e w1 ⟨rfl, hb1⟩
    obtain ⟨e1, e2, e3, e4⟩ := heap_three hb1
    obtain ⟨t0, t1, t2, t3, t4, tf, tl⟩ := row5 e1
    obtain ⟨a0, a1, a2, af, al⟩ := row3' e2
    obtain ⟨z0, z1, z2, z3, z4, zf, zl⟩ := row5 e3
    have Hb1 := hide e4
    have E1 := hide e1
    have E2 := hide e2
    have E3 := hide e3
    clear hb1 e1 e2 e3 e4
    go_wp2
    have hresl : Tryz.f38.results = #[.cell 4 38, .tmp 5] := by kernel_rfl
    refine bodyPost_ret (v := .tuple #[rgV ⟨0, 0, false, 0, 0⟩, .int .i64 10]) ?_ rfl ?_
    · simp only [results, hresl]
      go_simp
    · rw [HD.out]
      refine ⟨rfl, ?_⟩
      repeat (first | refine Below.setCell ?_ (by simp <;> omega) _ | refine Below.alloc ?_ (by simp <;> omega) _ | refine below_drewN ?_ _)
      exact Hb1.out
  by_cases c1 : src > 3
  · have HD := hide (decide_no (free := free) (show askS ⟨m, s, h, f, p⟩ src mode = 10 by unfold askS sourceB; rw [if_pos (by simp; omega)]) (by decide))
    have M := hide (fun w => rright_any ⟨m, s, h, f, p⟩ hr w)
    clear hr
    go_enter Tryz.func38, Tryz.ntmps38
    go_wp2_with fail
    refine (M.out _).mono ?_
    rintro e w1 ⟨rfl, hb1⟩
    obtain ⟨e1, e2, e3, e4⟩ := heap_three hb1
    obtain ⟨t0, t1, t2, t3, t4, tf, tl⟩ := row5 e1
    obtain ⟨a0, a1, a2, af, al⟩ := row3' e2
    obtain ⟨z0, z1, z2, z3, z4, zf, zl⟩ := row5 e3
    have Hb1 := hide e4
    have E1 := hide e1
    have E2 := hide e2
    have E3 := hide e3
    clear hb1 e1 e2 e3 e4
    go_wp2
    have hresl : Tryz.f38.results = #[.cell 4 38, .tmp 5] := by kernel_rfl
    refine bodyPost_ret (v := .tuple #[rgV ⟨0, 0, false, 0, 0⟩, .int .i64 10]) ?_ rfl ?_
    · simp only [results, hresl]
      go_simp
    · rw [HD.out]
      refine ⟨rfl, ?_⟩
      repeat (first | refine Below.setCell ?_ (by simp <;> omega) _ | refine Below.alloc ?_ (by simp <;> omega) _ | refine below_drewN ?_ _)
      exact Hb1.out
  by_cases c2 : mode < 0
  · have HD := hide (decide_no (free := free) (show askS ⟨m, s, h, f, p⟩ src mode = 10 by unfold askS modeB; rw [if_pos (by simp; omega)]) (by decide))
    have M := hide (fun w => rright_any ⟨m, s, h, f, p⟩ hr w)
    clear hr
    go_enter Tryz.func38, Tryz.ntmps38
    go_wp2_with fail
    refine (M.out _).mono ?_
    rintro e w1 ⟨rfl, hb1⟩
    obtain ⟨e1, e2, e3, e4⟩ := heap_three hb1
    obtain ⟨t0, t1, t2, t3, t4, tf, tl⟩ := row5 e1
    obtain ⟨a0, a1, a2, af, al⟩ := row3' e2
    obtain ⟨z0, z1, z2, z3, z4, zf, zl⟩ := row5 e3
    have Hb1 := hide e4
    have E1 := hide e1
    have E2 := hide e2
    have E3 := hide e3
    clear hb1 e1 e2 e3 e4
    go_wp2
    have hresl : Tryz.f38.results = #[.cell 4 38, .tmp 5] := by kernel_rfl
    refine bodyPost_ret (v := .tuple #[rgV ⟨0, 0, false, 0, 0⟩, .int .i64 10]) ?_ rfl ?_
    · simp only [results, hresl]
      go_simp
    · rw [HD.out]
      refine ⟨rfl, ?_⟩
      repeat (first | refine Below.setCell ?_ (by simp <;> omega) _ | refine Below.alloc ?_ (by simp <;> omega) _ | refine below_drewN ?_ _)
      exact Hb1.out
  by_cases c3 : mode > 7
  · have HD := hide (decide_no (free := free) (show askS ⟨m, s, h, f, p⟩ src mode = 10 by unfold askS modeB; rw [if_pos (by simp; omega)]) (by decide))
    have M := hide (fun w => rright_any ⟨m, s, h, f, p⟩ hr w)
    clear hr
    go_enter Tryz.func38, Tryz.ntmps38
    go_wp2_with fail
    refine (M.out _).mono ?_
    rintro e w1 ⟨rfl, hb1⟩
    obtain ⟨e1, e2, e3, e4⟩ := heap_three hb1
    obtain ⟨t0, t1, t2, t3, t4, tf, tl⟩ := row5 e1
    obtain ⟨a0, a1, a2, af, al⟩ := row3' e2
    obtain ⟨z0, z1, z2, z3, z4, zf, zl⟩ := row5 e3
    have Hb1 := hide e4
    have E1 := hide e1
    have E2 := hide e2
    have E3 := hide e3
    clear hb1 e1 e2 e3 e4
    go_wp2
    have hresl : Tryz.f38.results = #[.cell 4 38, .tmp 5] := by kernel_rfl
    refine bodyPost_ret (v := .tuple #[rgV ⟨0, 0, false, 0, 0⟩, .int .i64 10]) ?_ rfl ?_
    · simp only [results, hresl]
      go_simp
    · rw [HD.out]
      refine ⟨rfl, ?_⟩
      repeat (first | refine Below.setCell ?_ (by simp <;> omega) _ | refine Below.alloc ?_ (by simp <;> omega) _ | refine below_drewN ?_ _)
      exact Hb1.out
  cases h with
  | false => exact rdecide14_f m s f p hr src mode free w c0 c1 c2 c3
  | true =>
    by_cases c4 : src = 3
    · exact rdecide14_t m s f p hr src mode free w c0 c1 c2 c3 c4
    · have n1 : ¬ (sourceB src = false ∨ modeB mode = false) := by unfold sourceB modeB; simp; omega
      have HD := hide (decide_no (free := free) (show askS ⟨m, s, true, f, p⟩ src mode = 23 by unfold askS; rw [if_neg n1, if_pos ⟨rfl, c4⟩]) (by decide))
      have b5 : (src != 3) = true := by simpa using c4
      have M := hide (fun w => rright_any ⟨m, s, true, f, p⟩ hr w)
      obtain ⟨h, hh⟩ : ∃ h : Bool, h = true := ⟨_, rfl⟩
      clear hr n1 c4
      go_enter Tryz.func38, Tryz.ntmps38
      go_wp2_with fail
      refine (M.out _).mono ?_
      rintro e w1 ⟨rfl, hb1⟩
      obtain ⟨e1, e2, e3, e4⟩ := heap_three hb1
      obtain ⟨t0, t1, t2, t3, t4, tf, tl⟩ := row5 e1
      obtain ⟨a0, a1, a2, af, al⟩ := row3' e2
      obtain ⟨z0, z1, z2, z3, z4, zf, zl⟩ := row5 e3
      have Hb1 := hide e4
      have E1 := hide e1
      have E2 := hide e2
      have E3 := hide e3
      clear hb1 e1 e2 e3 e4
      go_wp2
      have hresl : Tryz.f38.results = #[.cell 4 38, .tmp 5] := by kernel_rfl
      refine bodyPost_ret (v := .tuple #[rgV ⟨0, 0, false, 0, 0⟩, .int .i64 23]) ?_ rfl ?_
      · simp only [results, hresl]
        go_simp
      · rw [HD.out]
        refine ⟨rfl, ?_⟩
        repeat (first | refine Below.setCell ?_ (by simp <;> omega) _ | refine Below.alloc ?_ (by simp <;> omega) _ | refine below_drewN ?_ _)
        exact Hb1.out

end Go.Proofs.YtclgmikdjcjjdaaGreatDoor
