/-
  The walk of the reference's Decide, with a hold. Conditions: a register that may be.
-/
import Derived.Test.YtclgmikdjcjjdaaGreatDoorBRef14E
namespace Go.Proofs.YtclgmikdjcjjdaaGreatDoor
open Go.RowKit

set_option maxRecDepth 100000 in
set_option maxHeartbeats 12800000 in
theorem rdecide14_t (m s f : Int) (p : Nat) (hr : (⟨m, s, true, f, p⟩ : Rg).fit) (src mode : Int) (free : Bool) (w : World) (c0 : ¬ src < 0) (c1 : ¬ src > 3) (c2 : ¬ mode < 0) (c3 : ¬ mode > 7) (c4 : src = 3) :
    Calls Tryz.prog 38 #[rgV ⟨m, s, true, f, p⟩, .agg #[.int .i64 src, .int .i64 mode, .bool free]] w fun e w' => e = .returned (.tuple #[rgV (decideS ⟨m, s, true, f, p⟩ src mode free).1, .int .i64 (decideS ⟨m, s, true, f, p⟩ src mode free).2]) ∧ Below w.heap.size w w' := by
  have M := hide (fun w => rright_any _ hr w)
  obtain ⟨q1, q2, q3, -, hp⟩ := hr
  simp only at hp q1 q2 q3
  have n1 : ¬ (sourceB src = false ∨ modeB mode = false) := by unfold sourceB modeB; simp; omega
  have hmd : modeB mode = true := by unfold modeB; simp; omega
  have hs4 : s < 4 := by unfold sourceB at q2; simp at q2; omega
  have HFi := hide (fun w => find13_any m mode w)
  rw [row_way q1 hmd] at HFi
  obtain ⟨fN, rfl⟩ : ∃ fN : Nat, f = fN := ⟨f.toNat, by unfold healthB at q3; simp at q3; omega⟩
  have hfN : fN < 64 := by unfold healthB at q3; simp at q3; omega
  have hwl := way_lt m.toNat (by unfold modeB at q1; simp at q1; omega) mode.toNat (by omega)
  rw [Int.toNat_of_nonneg (by unfold modeB at q1; simp at q1; omega), Int.toNat_of_nonneg (by omega)] at hwl
  obtain ⟨NE, hNE⟩ : ∃ x, x = needS m mode := ⟨_, rfl⟩
  obtain ⟨NO, hNO⟩ : ∃ x, x = notS m mode := ⟨_, rfl⟩
  rw [← hNE, ← hNO] at hwl HFi
  have HHas := hide (fun w => has14_any fN NE hfN hwl.1 w)
  have HNon := hide (fun w => none14_any fN NO hfN hwl.2 w)
  obtain ⟨WZ, hWZ⟩ : ∃ x, x = wayS m mode := ⟨_, rfl⟩
  rw [← hWZ] at HFi
  have HNE := hide hNE
  have HNO := hide hNO
  have HWZ := hide hWZ
  have Hp := hide hp
  have Hmd := hide hmd
  have Hn1 := hide n1
  clear hNE hNO hWZ hp hmd n1 q1 q2 q3 hwl hfN
  have C4 := hide (show ¬ (true = true ∧ src ≠ 3) from fun h => h.2 c4)
  have b4 : (src != 3) = false := by simpa using c4
  have c6 : ¬ src < s := by omega
  have C6 := hide (show ¬ (src < s ∧ m ≠ 0) from fun h => c6 h.1)
  clear hs4 c4
  go_enter Tryz.func38, Tryz.ntmps38
  go_wp2_with fail
  refine (M.out _).mono ?_
  rintro e w1 ⟨rfl, hb1⟩
  obtain ⟨e1, e2, e3, e4⟩ := heap_three hb1
  obtain ⟨t0, t1, t2, t3, t4, tf, tl⟩ := row5 e1
  obtain ⟨a0, a1, a2, af, al⟩ := row3' e2
  obtain ⟨z0, z1, z2, z3, z4, zf, zl⟩ := row5 e3
  have Hb1 := hide e4
  have E1 := hide e1
  have E2 := hide e2
  have E3 := hide e3
  clear hb1 e1 e2 e3 e4
  go_wp2_with fail
  refine (HFi.out _).mono ?_
  rintro e w2 ⟨rfl, hb2⟩
  have E1 := hide ((hb2.block _ tl).trans E1.out)
  have E2 := hide ((hb2.block _ al).trans E2.out)
  have E3 := hide ((hb2.block _ zl).trans E3.out)
  obtain ⟨t0, t1, t2, t3, t4, tf, tl⟩ := row5 E1.out
  obtain ⟨a0, a1, a2, af, al⟩ := row3' E2.out
  obtain ⟨z0, z1, z2, z3, z4, zf, zl⟩ := row5 E3.out
  have Hb1 := hide (below2 Hb1.out hb2)
  clear hb2
  by_cases cw : WZ = 0
  · have HD := hide (decide_no (free := free) (show askS ⟨m, s, true, (fN : Int), p⟩ src mode = 21 by unfold askS; rw [if_neg Hn1.out, if_neg (fun hx => C4.out (by simpa using hx)), if_neg C6.out, if_pos (HWZ.out ▸ cw)]) (by decide))
    rw [if_pos cw]
    simp only [findV]
    clear cw
    go_wp2
    have hresl : Tryz.f38.results = #[.cell 4 38, .tmp 5] := by kernel_rfl
    refine bodyPost_ret (v := .tuple #[rgV ⟨0, 0, false, 0, 0⟩, .int .i64 21]) ?_ rfl ?_
    · simp only [results, hresl]
      go_simp
    · rw [HD.out]
      refine ⟨rfl, ?_⟩
      repeat (first | refine Below.setCell ?_ (by simp <;> omega) _ | refine Below.alloc ?_ (by simp <;> omega) _ | refine below_drewN ?_ _)
      exact Hb1.out
  have HW := hide cw
  rw [if_neg cw]
  simp only [findV]
  clear cw
  go_wp2_with fail
  refine (HHas.out _).mono ?_
  rintro e w3 ⟨rfl, hb3⟩
  have hb23 := below2 (below_new w2 _) hb3
  have E4 := hide ((hb3.block w2.heap.size (by simp)).trans (heap_alloc_new w2 _))
  have E1 := hide ((hb23.block _ tl).trans E1.out)
  have E2 := hide ((hb23.block _ al).trans E2.out)
  have E3 := hide ((hb23.block _ zl).trans E3.out)
  obtain ⟨t0, t1, t2, t3, t4, tf, tl⟩ := row5 E1.out
  obtain ⟨a0, a1, a2, af, al⟩ := row3' E2.out
  obtain ⟨z0, z1, z2, z3, z4, zf, zl⟩ := row5 E3.out
  obtain ⟨v0, v1, v2, v3, vf, vl⟩ := row4 E4.out
  have Hb1 := hide (below2 Hb1.out hb23)
  clear hb3 hb23
  by_cases ch : fN &&& NE = NE
  · rw [decide_eq_true ch]
    have CH := hide ch
    clear ch
    go_wp2_with fail
    refine (HNon.out _).mono ?_
    rintro e w4 ⟨rfl, hb4⟩
    have E1 := hide ((hb4.block _ tl).trans E1.out)
    have E2 := hide ((hb4.block _ al).trans E2.out)
    have E3 := hide ((hb4.block _ zl).trans E3.out)
    obtain ⟨t0, t1, t2, t3, t4, tf, tl⟩ := row5 E1.out
    obtain ⟨a0, a1, a2, af, al⟩ := row3' E2.out
    obtain ⟨z0, z1, z2, z3, z4, zf, zl⟩ := row5 E3.out
    have Hb1 := hide (below2 Hb1.out hb4)
    clear hb4
    by_cases cn : fN &&& NO = 0
    · rw [decide_eq_true cn]
      have CN := hide cn
      clear cn
      have hfl := hide (show ¬ ((fN : Int).toNat &&& needS m mode ≠ needS m mode ∨ (fN : Int).toNat &&& notS m mode ≠ 0) by rw [Int.toNat_natCast, ← HNE.out, ← HNO.out]; exact fun hx => hx.elim (fun h => h CH.out) (fun h => h CN.out))
      by_cases cp : p = 4503599627370495
      · have bq : (((p : Nat) : Int) == 4503599627370495) = true := by simp [cp]
        have HD := hide (decide_no (free := free) (show askS ⟨m, s, true, (fN : Int), p⟩ src mode = 16 by unfold askS; rw [if_neg Hn1.out, if_neg (fun hx => C4.out (by simpa using hx)), if_neg C6.out, if_neg (fun hx => HW.out (HWZ.out.trans hx)), if_neg hfl.out, if_pos (show p = lastE from cp)]) (by decide))
        clear cp
        go_wp2
        have hresl : Tryz.f38.results = #[.cell 4 38, .tmp 5] := by kernel_rfl
        refine bodyPost_ret (v := .tuple #[rgV ⟨0, 0, false, 0, 0⟩, .int .i64 16]) ?_ rfl ?_
        · simp only [results, hresl]
          go_simp
        · rw [HD.out]
          refine ⟨rfl, ?_⟩
          repeat (first | refine Below.setCell ?_ (by simp <;> omega) _ | refine Below.alloc ?_ (by simp <;> omega) _ | refine below_drewN ?_ _)
          exact Hb1.out
      · have bq : (((p : Nat) : Int) == 4503599627370495) = false := by simp; omega
        have hp := Hp.out
        obtain ⟨p2, hp2⟩ : ∃ x, x = p + 1 := ⟨_, rfl⟩
        have hw : IntKind.u64.wrap ((p : Int) + 1) = (p2 : Int) := by rw [IntKind.wrap_u64]; omega
        have HA := hide (show askS ⟨m, s, true, (fN : Int), p⟩ src mode = 0 by unfold askS; rw [if_neg Hn1.out, if_neg (fun hx => C4.out (by simpa using hx)), if_neg C6.out, if_neg (fun hx => HW.out (HWZ.out.trans hx)), if_neg hfl.out, if_neg (show ¬ p = lastE from cp)])
        have HP2 := hide hp2
        clear cp hp hp2
        by_cases c37 : src = 3 ∧ mode = 7
        · obtain ⟨e3, e7⟩ := c37
          have b3 : (src == 3) = true := by simpa using e3
          have b7' : (mode == 7) = true := by simpa using e7
          have HD := hide ((decide_yes (free := free) HA.out).trans (show _ = ((⟨mode, src, true, (fN : Int), p2⟩ : Rg), (0 : Int)) by unfold turnedS; rw [if_pos ⟨e3, e7⟩, HP2.out, e3]))
          clear e3 e7
          go_wp2
          have hresl : Tryz.f38.results = #[.cell 4 38, .tmp 5] := by kernel_rfl
          refine bodyPost_ret (v := .tuple #[rgV ⟨mode, src, true, (fN : Int), p2⟩, .int .i64 0]) ?_ rfl ?_
          · simp only [results, hresl]
            go_simp
          · rw [HD.out]
            refine ⟨rfl, ?_⟩
            repeat (first | refine Below.setCell ?_ (by simp <;> omega) _ | refine Below.alloc ?_ (by simp <;> omega) _ | refine below_drewN ?_ _)
            exact Hb1.out
        · cases free with
          | true =>
            have HD := hide ((decide_yes (free := true) HA.out).trans (show _ = ((⟨mode, 0, false, (fN : Int), p2⟩ : Rg), (0 : Int)) by unfold turnedS; rw [if_neg c37, if_pos rfl, HP2.out]))
            by_cases e3 : src = 3
            · have e7 : ¬ mode = 7 := fun h => c37 ⟨e3, h⟩
              have b3 : (src == 3) = true := by simpa using e3
              have b7' : (mode == 7) = false := by simpa using e7
              clear e3 e7 c37
              go_wp2
              have hresl : Tryz.f38.results = #[.cell 4 38, .tmp 5] := by kernel_rfl
              refine bodyPost_ret (v := .tuple #[rgV ⟨mode, 0, false, (fN : Int), p2⟩, .int .i64 0]) ?_ rfl ?_
              · simp only [results, hresl]
                go_simp
              · rw [HD.out]
                refine ⟨rfl, ?_⟩
                repeat (first | refine Below.setCell ?_ (by simp <;> omega) _ | refine Below.alloc ?_ (by simp <;> omega) _ | refine below_drewN ?_ _)
                exact Hb1.out
            · have b3 : (src == 3) = false := by simpa using e3
              clear e3 c37
              go_wp2
              have hresl : Tryz.f38.results = #[.cell 4 38, .tmp 5] := by kernel_rfl
              refine bodyPost_ret (v := .tuple #[rgV ⟨mode, 0, false, (fN : Int), p2⟩, .int .i64 0]) ?_ rfl ?_
              · simp only [results, hresl]
                go_simp
              · rw [HD.out]
                refine ⟨rfl, ?_⟩
                repeat (first | refine Below.setCell ?_ (by simp <;> omega) _ | refine Below.alloc ?_ (by simp <;> omega) _ | refine below_drewN ?_ _)
                exact Hb1.out
          | false =>
            have HD := hide ((decide_yes (free := false) HA.out).trans (show _ = ((⟨mode, src, true, (fN : Int), p2⟩ : Rg), (0 : Int)) by unfold turnedS; rw [if_neg c37, if_neg (by decide), HP2.out]))
            by_cases e3 : src = 3
            · have e7 : ¬ mode = 7 := fun h => c37 ⟨e3, h⟩
              have b3 : (src == 3) = true := by simpa using e3
              have b7' : (mode == 7) = false := by simpa using e7
              clear e3 e7 c37
              go_wp2
              have hresl : Tryz.f38.results = #[.cell 4 38, .tmp 5] := by kernel_rfl
              refine bodyPost_ret (v := .tuple #[rgV ⟨mode, src, true, (fN : Int), p2⟩, .int .i64 0]) ?_ rfl ?_
              · simp only [results, hresl]
                go_simp
              · rw [HD.out]
                refine ⟨rfl, ?_⟩
                repeat (first | refine Below.setCell ?_ (by simp <;> omega) _ | refine Below.alloc ?_ (by simp <;> omega) _ | refine below_drewN ?_ _)
                exact Hb1.out
            · have b3 : (src == 3) = false := by simpa using e3
              clear e3 c37
              go_wp2
              have hresl : Tryz.f38.results = #[.cell 4 38, .tmp 5] := by kernel_rfl
              refine bodyPost_ret (v := .tuple #[rgV ⟨mode, src, true, (fN : Int), p2⟩, .int .i64 0]) ?_ rfl ?_
              · simp only [results, hresl]
                go_simp
              · rw [HD.out]
                refine ⟨rfl, ?_⟩
                repeat (first | refine Below.setCell ?_ (by simp <;> omega) _ | refine Below.alloc ?_ (by simp <;> omega) _ | refine below_drewN ?_ _)
                exact Hb1.out
    · rw [decide_eq_false cn]
      have HD := hide (decide_no (free := free) (show askS ⟨m, s, true, (fN : Int), p⟩ src mode = 22 by unfold askS; rw [if_neg Hn1.out, if_neg (fun hx => C4.out (by simpa using hx)), if_neg C6.out, if_neg (fun hx => HW.out (HWZ.out.trans hx)), if_pos (.inr (by rw [Int.toNat_natCast, ← HNO.out]; exact cn))]) (by decide))
      clear cn
      go_wp2
      have hresl : Tryz.f38.results = #[.cell 4 38, .tmp 5] := by kernel_rfl
      refine bodyPost_ret (v := .tuple #[rgV ⟨0, 0, false, 0, 0⟩, .int .i64 22]) ?_ rfl ?_
      · simp only [results, hresl]
        go_simp
      · rw [HD.out]
        refine ⟨rfl, ?_⟩
        repeat (first | refine Below.setCell ?_ (by simp <;> omega) _ | refine Below.alloc ?_ (by simp <;> omega) _ | refine below_drewN ?_ _)
        exact Hb1.out
  · rw [decide_eq_false ch]
    have HD := hide (decide_no (free := free) (show askS ⟨m, s, true, (fN : Int), p⟩ src mode = 22 by unfold askS; rw [if_neg Hn1.out, if_neg (fun hx => C4.out (by simpa using hx)), if_neg C6.out, if_neg (fun hx => HW.out (HWZ.out.trans hx)), if_pos (.inl (by rw [Int.toNat_natCast, ← HNE.out]; exact ch))]) (by decide))
    clear ch
    go_wp2
    have hresl : Tryz.f38.results = #[.cell 4 38, .tmp 5] := by kernel_rfl
    refine bodyPost_ret (v := .tuple #[rgV ⟨0, 0, false, 0, 0⟩, .int .i64 22]) ?_ rfl ?_
    · simp only [results, hresl]
      go_simp
    · rw [HD.out]
      refine ⟨rfl, ?_⟩
      repeat (first | refine Below.setCell ?_ (by simp <;> omega) _ | refine Below.alloc ?_ (by simp <;> omega) _ | refine below_drewN ?_ _)
      exact Hb1.out

end Go.Proofs.YtclgmikdjcjjdaaGreatDoor
