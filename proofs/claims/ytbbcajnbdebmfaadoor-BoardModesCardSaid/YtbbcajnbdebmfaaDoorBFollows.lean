/-
  The walk of reg.Follows. Conditions: two registers that may be; the ways between modes, in memory.
-/
import Derived.Test.YtbbcajnbdebmfaaDoorBDecide
import Derived.Test.YtbbcajnbdebmfaaDoorBModesP
import Derived.Deep.Cut
import Derived.Deep.CutRange
import Derived.Deep.DeepCutAuto
namespace Go.Proofs.YtbbcajnbdebmfaaDoor
open Go.RowKit

theorem follows_not {s t : Rg} (h0 : healthS s t.flags ≠ (t, 0)) (h : ∀ who : Nat, who < 4 → ∀ free, decideS s who t.mode free ≠ (t, 0)) : followsS s t = false := by
  unfold followsS
  rw [Bool.or_eq_false_iff]
  refine ⟨decide_eq_false h0, ?_⟩
  rw [List.any_eq_false]
  intro who hw
  rw [Bool.not_eq_true, List.any_eq_false]
  intro free _
  rw [Bool.not_eq_true]
  exact decide_eq_false (h who (List.mem_range.1 hw) free)

theorem follows_yes {s t : Rg} {who : Nat} {free : Bool} (hw : who < 4) (h : decideS s who t.mode free = (t, 0)) : followsS s t = true := by
  unfold followsS
  rw [Bool.or_eq_true]
  right
  refine List.any_eq_true.2 ⟨who, List.mem_range.2 hw, List.any_eq_true.2 ⟨free, by cases free <;> simp, decide_eq_true h⟩⟩

set_option maxRecDepth 100000 in
set_option maxHeartbeats 3200000 in
theorem follows_any (s t : Rg) (hs : s.fit) (w : World) (hw : WaysAt w) :
    Calls Tryd.prog 20 #[rgV s, rgV t] w fun e w' => e = .returned (.bool (followsS s t)) ∧ Below w.heap.size w w' := by
  have HH := hide (fun (w' : World) => health_any s hs t.flags w')
  have HD := hide (fun (who : Nat) (free : Bool) (w' : World) (hb : Below w.heap.size w w') => decide_any s hs who t.mode free w' (hw.below hb))
  obtain ⟨a, b, c, d, e⟩ := s
  obtain ⟨a2, b2, c2, d2, e2⟩ := t
  simp only at HH HD
  obtain ⟨⟨⟨h1, h2, h3, h4, h5⟩, hc⟩, hX⟩ : ∃ X, X = healthS ⟨a, b, c, d, e⟩ d2 := ⟨_, rfl⟩
  rw [← hX] at HH
  have HXe := hide hX
  clear hX hs hw
  go_enter Tryd.func20, Tryd.ntmps20
  go_wp2_with fail
  refine (HH.out _).mono ?_
  rintro e' w1 ⟨rfl, hb1⟩
  have hb01 := (below_new2 w (rgO ⟨a, b, c, d, e⟩) (rgO ⟨a2, b2, c2, d2, e2⟩)).trans (hb1.mono (by simp; omega))
  have hS1 : w1.heap[w.heap.size]? = some (rgO ⟨a, b, c, d, e⟩) := (hb1.block _ (by simp; omega)).trans (heap_two w _ _).1
  have hT1 : w1.heap[w.heap.size + 1]? = some (rgO ⟨a2, b2, c2, d2, e2⟩) := (hb1.block _ (by simp)).trans (heap_two w _ _).2
  clear hb1
  obtain ⟨s0, s1, s2, s3, s4, sf, sl⟩ := row5 hS1
  obtain ⟨t0, t1, t2, t3, t4, tf, tl⟩ := row5 hT1
  go_upto_region 2 with fail
  have hbX := below2 hb01 (below_new w1 (rgO ⟨h1, h2, h3, h4, h5⟩))
  have hSX := alloc_was w1 (rgO ⟨h1, h2, h3, h4, h5⟩) _ _ hS1
  have hTX := alloc_was w1 (rgO ⟨h1, h2, h3, h4, h5⟩) _ _ hT1
  have hUX := heap_alloc_new w1 (rgO ⟨h1, h2, h3, h4, h5⟩)
  generalize w1.alloc (rgO ⟨h1, h2, h3, h4, h5⟩) = X at *
  generalize w1.heap.size = g5 at *
  clear s0 s1 s2 s3 s4 sf sl t0 t1 t2 t3 t4 tf tl hS1 hT1 hb01
  obtain ⟨s0, s1, s2, s3, s4, sf, sl⟩ := row5 hSX
  obtain ⟨t0, t1, t2, t3, t4, tf, tl⟩ := row5 hTX
  obtain ⟨u0, u1, u2, u3, u4, uf, ul⟩ := row5 hUX
  go_cut [25] (fun s25 wx => s25 = .bool (decide (hc = 0 ∧ (⟨h1, h2, h3, h4, h5⟩ : Rg) = ⟨a2, b2, c2, d2, e2⟩)) ∧ wx = X)
  case first =>
    by_cases hc0 : hc = 0
    · subst hc0
      go_wp2_with fail
      all_goals (
        go_meet
        refine ⟨congrArg Value.bool ?_, rfl⟩
        first
          | (simp_all; done)
          | (simp_all; omega))
    · go_wp2_with fail
      go_meet
      refine ⟨congrArg Value.bool ?_, rfl⟩
      simp_all
  case rest =>
    obtain ⟨rfl, rfl⟩ := hcut
    by_cases hq : hc = 0 ∧ (⟨h1, h2, h3, h4, h5⟩ : Rg) = ⟨a2, b2, c2, d2, e2⟩
    · have HR := hide (show followsS ⟨a, b, c, d, e⟩ ⟨a2, b2, c2, d2, e2⟩ = true by
        unfold followsS
        rw [Bool.or_eq_true]
        left
        exact decide_eq_true (by rw [← HXe.out, hq.1, hq.2]))
      rw [decide_eq_true hq]
      go_wp2
      go_ret
      exact ⟨by rw [HR.out]; simp, hbX⟩
    · have HN0 := hide (show healthS ⟨a, b, c, d, e⟩ d2 ≠ (⟨a2, b2, c2, d2, e2⟩, 0) from fun h => hq ⟨congrArg Prod.snd (HXe.out.trans h), congrArg Prod.fst (HXe.out.trans h)⟩)
      rw [decide_eq_false hq]
      clear hq s0 s1 s2 s3 s4 sf t0 t1 t2 t3 t4 tf u0 u1 u2 u3 u4 uf hUX
      go_wp2_with fail
      go_loopw [26] (fun i wr => ∃ k : Nat, k ≤ 4 ∧ i = .int .i64 k ∧ Below wc.heap.size wc wr ∧ Hid (∀ who : Nat, who < k → ∀ free, decideS ⟨a, b, c, d, e⟩ who a2 free ≠ (⟨a2, b2, c2, d2, e2⟩, 0))) (fun i _ => 4 - (intOf i).toNat)
      case atStart => exact ⟨0, by omega, rfl, Below.refl _ _, hide (fun i hi => by omega)⟩
      case round =>
        obtain ⟨k, hk, rfl, hbr, HK⟩ := hrel
        by_cases hlt : k < 4
        · have hkl : decide ((k : Int) < 4) = true := decide_eq_true (by omega)
          go_wp2_with fail
          have hAr := heap_alloc_new wr (.cells #[.bool false, .bool true] 4)
          have hbA : Below wc.heap.size wc (wr.alloc (.cells #[.bool false, .bool true] 4)) := below2 hbr (below_new wr _)
          generalize wr.alloc (.cells #[.bool false, .bool true] 4) = V at *
          generalize wr.heap.size = gq at *
          have hgq := block_lt hAr
          have HbA := hide hbA
          have hSV := (hbA.block w.heap.size (block_lt hSX)).trans hSX
          have hTV := (hbA.block (w.heap.size + 1) (block_lt hTX)).trans hTX
          clear hbr hbA
          go_wp2_with fail
          go_loopw [31] (fun i wq => ∃ q : Nat, q ≤ 2 ∧ i = .int .i64 q ∧ Below V.heap.size V wq ∧ Hid (∀ i : Nat, i < q → decideS ⟨a, b, c, d, e⟩ k a2 (decide (i = 1)) ≠ (⟨a2, b2, c2, d2, e2⟩, 0))) (fun i _ => 2 - (intOf i).toNat)
          case atStart => exact ⟨0, by omega, rfl, Below.refl _ _, hide (fun i hi => by omega)⟩
          case round =>
            obtain ⟨q, hq, rfl, hbq, HE⟩ := hrel
            have hbWq := below2 hbX (below2 HbA.out hbq)
            have hSq := (hbq.block w.heap.size (block_lt hSV)).trans hSV
            have hTq := (hbq.block (w.heap.size + 1) (block_lt hTV)).trans hTV
            match q, hq, HE with
            | 0, hq, HE =>
              obtain ⟨⟨⟨j1, j2, j3, j4, j5⟩, jc⟩, hY⟩ : ∃ Y, Y = decideS ⟨a, b, c, d, e⟩ k a2 false := ⟨_, rfl⟩
              have HD1 := hide (fun w' hb => HD.out k false w' hb)
              try simp only at HD1
              rw [← hY] at HD1
              have HY := hide hY
              have r2 := row2 ((hbq.block gq hgq).trans hAr)
              obtain ⟨v0, v1, vf, vl⟩ := r2
              obtain ⟨p0, p1, p2, p3, p4, pf, pl⟩ := row5 hSq
              obtain ⟨o0, o1, o2, o3, o4, of, ol⟩ := row5 hTq
              clear hY
              go_wp2_with fail
              refine (HD1.out _ hbWq).mono ?_
              rintro e' w3 ⟨rfl, hb3⟩
              have hbq3 := below2 hbq hb3
              obtain ⟨x0, x1, x2, x3, x4, xf, xl⟩ := row5 ((hb3.block _ (block_lt hSq)).trans hSq)
              obtain ⟨y0, y1, y2, y3, y4, yf, yl⟩ := row5 ((hb3.block _ (block_lt hTq)).trans hTq)
              have hbW3 := below2 hbWq hb3
              by_cases hj0 : jc = 0
              · by_cases hju : (⟨j1, j2, j3, j4, j5⟩ : Rg) = ⟨a2, b2, c2, d2, e2⟩
                · have HR := hide (follows_yes (s := ⟨a, b, c, d, e⟩) (t := ⟨a2, b2, c2, d2, e2⟩) (who := k) (free := false) (by omega) (HY.out.symm.trans (by rw [hju, hj0])))
                  simp only [Rg.mk.injEq] at hju
                  obtain ⟨rfl, rfl, rfl, rfl, rfl⟩ := hju
                  subst hj0
                  go_wp2
                  go_ret
                  exact ⟨by rw [HR.out]; simp, below2 hbW3 (below_new w3 _)⟩
                · have HN := hide (show decideS ⟨a, b, c, d, e⟩ k a2 false ≠ (⟨a2, b2, c2, d2, e2⟩, 0) from fun h => hju (congrArg Prod.fst (HY.out.trans h)))
                  have Hju := hide hju
                  clear hju
                  subst hj0
                  go_wp2
                  all_goals first
                    | (exfalso
                       refine Hju.out ?_
                       rw [Rg.mk.injEq]
                       exact ⟨by assumption, by assumption, by assumption, by assumption, by omega⟩)
                    | (go_roundw
                       case rel => exact ⟨0 + 1, by omega, by go_num, below2 hbq3 (below_new w3 _), hide (fun i hi => by
                         rcases Nat.lt_succ_iff_lt_or_eq.1 hi with h | h
                         · exact HE.out i h
                         · subst h; exact HN.out)⟩
                       case measure => simp [intOf])
              · have HN := hide (show decideS ⟨a, b, c, d, e⟩ k a2 false ≠ (⟨a2, b2, c2, d2, e2⟩, 0) from fun h => hj0 (congrArg Prod.snd (HY.out.trans h)))
                go_wp2
                go_roundw
                case rel => exact ⟨0 + 1, by omega, by go_num, below2 hbq3 (below_new w3 _), hide (fun i hi => by
                  rcases Nat.lt_succ_iff_lt_or_eq.1 hi with h | h
                  · exact HE.out i h
                  · subst h; exact HN.out)⟩
                case measure => simp [intOf]
            | 1, hq, HE =>
              obtain ⟨⟨⟨j1, j2, j3, j4, j5⟩, jc⟩, hY⟩ : ∃ Y, Y = decideS ⟨a, b, c, d, e⟩ k a2 true := ⟨_, rfl⟩
              have HD1 := hide (fun w' hb => HD.out k true w' hb)
              try simp only at HD1
              rw [← hY] at HD1
              have HY := hide hY
              have r2 := row2 ((hbq.block gq hgq).trans hAr)
              obtain ⟨v0, v1, vf, vl⟩ := r2
              obtain ⟨p0, p1, p2, p3, p4, pf, pl⟩ := row5 hSq
              obtain ⟨o0, o1, o2, o3, o4, of, ol⟩ := row5 hTq
              clear hY
              go_wp2_with fail
              refine (HD1.out _ hbWq).mono ?_
              rintro e' w3 ⟨rfl, hb3⟩
              have hbq3 := below2 hbq hb3
              obtain ⟨x0, x1, x2, x3, x4, xf, xl⟩ := row5 ((hb3.block _ (block_lt hSq)).trans hSq)
              obtain ⟨y0, y1, y2, y3, y4, yf, yl⟩ := row5 ((hb3.block _ (block_lt hTq)).trans hTq)
              have hbW3 := below2 hbWq hb3
              by_cases hj0 : jc = 0
              · by_cases hju : (⟨j1, j2, j3, j4, j5⟩ : Rg) = ⟨a2, b2, c2, d2, e2⟩
                · have HR := hide (follows_yes (s := ⟨a, b, c, d, e⟩) (t := ⟨a2, b2, c2, d2, e2⟩) (who := k) (free := true) (by omega) (HY.out.symm.trans (by rw [hju, hj0])))
                  simp only [Rg.mk.injEq] at hju
                  obtain ⟨rfl, rfl, rfl, rfl, rfl⟩ := hju
                  subst hj0
                  go_wp2
                  go_ret
                  exact ⟨by rw [HR.out]; simp, below2 hbW3 (below_new w3 _)⟩
                · have HN := hide (show decideS ⟨a, b, c, d, e⟩ k a2 true ≠ (⟨a2, b2, c2, d2, e2⟩, 0) from fun h => hju (congrArg Prod.fst (HY.out.trans h)))
                  have Hju := hide hju
                  clear hju
                  subst hj0
                  go_wp2
                  all_goals first
                    | (exfalso
                       refine Hju.out ?_
                       rw [Rg.mk.injEq]
                       exact ⟨by assumption, by assumption, by assumption, by assumption, by omega⟩)
                    | (go_roundw
                       case rel => exact ⟨1 + 1, by omega, by go_num, below2 hbq3 (below_new w3 _), hide (fun i hi => by
                         rcases Nat.lt_succ_iff_lt_or_eq.1 hi with h | h
                         · exact HE.out i h
                         · subst h; exact HN.out)⟩
                       case measure => simp [intOf])
              · have HN := hide (show decideS ⟨a, b, c, d, e⟩ k a2 true ≠ (⟨a2, b2, c2, d2, e2⟩, 0) from fun h => hj0 (congrArg Prod.snd (HY.out.trans h)))
                go_wp2
                go_roundw
                case rel => exact ⟨1 + 1, by omega, by go_num, below2 hbq3 (below_new w3 _), hide (fun i hi => by
                  rcases Nat.lt_succ_iff_lt_or_eq.1 hi with h | h
                  · exact HE.out i h
                  · subst h; exact HN.out)⟩
                case measure => simp [intOf]
            | q + 2, hq, HE =>
              have hq0 : q = 0 := by omega
              subst hq0
              have HK2 := hide (show ∀ who : Nat, who < k + 1 → ∀ free, decideS ⟨a, b, c, d, e⟩ who a2 free ≠ (⟨a2, b2, c2, d2, e2⟩, 0) from fun who hw free => by
                rcases Nat.lt_succ_iff_lt_or_eq.1 hw with h | h
                · exact HK.out who h free
                · subst h
                  cases free with
                  | false => exact HE.out 0 (by omega)
                  | true => exact HE.out 1 (by omega))
              have HbVq := hide (below2 HbA.out hbq)
              clear HE HK hbq hbWq
              go_wp2
              go_roundw
              case rel => exact ⟨k + 1, by omega, by go_num, HbVq.out, HK2⟩
              case measure => simp [intOf]; omega
        · have hk4 : k = 4 := by omega
          subst hk4
          have HR := hide (follows_not (s := ⟨a, b, c, d, e⟩) (t := ⟨a2, b2, c2, d2, e2⟩) HN0.out HK.out)
          clear hlt
          go_wp2
          go_ret
          exact ⟨by rw [HR.out]; simp, below2 hbX hbr⟩

end Go.Proofs.YtbbcajnbdebmfaaDoor
