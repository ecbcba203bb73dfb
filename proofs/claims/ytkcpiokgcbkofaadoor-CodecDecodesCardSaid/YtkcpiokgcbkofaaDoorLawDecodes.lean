/-
  The walk of the law CodecDecodes: it answers true. Conditions: a slice of parts, a slice of words.
-/
import Derived.Test.YtkcpiokgcbkofaaDoorAwake
import Derived.Test.YtkcpiokgcbkofaaDoorNan
import Derived.Test.YtkcpiokgcbkofaaDoorRefDecode
namespace Go.Proofs.YtkcpiokgcbkofaaDoor
open Go.RowKit

theorem getV_order (k ln : Int) (bit x : Nat) : FloatKind.f64.format.order (getV k ln bit x).2.1 (getV k ln bit x).2.1 = some .eq ∧ FloatKind.f64.format.order (getV k ln bit x).2.2 (getV k ln bit x).2.2 = some .eq := by
  unfold getV
  split
  · exact ⟨flt_order _, flt_order _⟩
  · split
    · exact ⟨zero_order, zero_order⟩
    · exact ⟨zero_order, zero_order⟩

/-- What is decoded is the same as itself. -/
theorem decode_order {ps : List (Int × Int)} {ws : List Nat} {vs : List (Int × Nat × Nat)} (h : decodeS ps ws = .ok vs) : ∀ x ∈ vs, FloatKind.f64.format.order x.2.1 x.2.1 = some .eq ∧ FloatKind.f64.format.order x.2.2 x.2.2 = some .eq := by
  unfold decodeS at h
  split at h
  · cases h
  · split at h
    · cases h
    · split at h
      · cases h
        intro x hx
        obtain ⟨z, -, rfl⟩ := List.mem_map.1 hx
        exact getV_order _ _ _ _
      · cases h

theorem decode_len {ps : List (Int × Int)} {ws : List Nat} {vs : List (Int × Nat × Nat)} (h : decodeS ps ws = .ok vs) : vs.length = ps.length ∧ 0 < ps.length ∧ ps.length ≤ 256 := by
  unfold decodeS at h
  split at h
  · cases h
  · rename_i pl m hp
    have F := places_facts hp
    split at h
    · cases h
    · split at h
      · cases h
        refine ⟨?_, by omega, by omega⟩
        rw [List.length_map, List.length_zip]
        omega
      · cases h

set_option maxRecDepth 100000 in
set_option maxHeartbeats 1600000 in
theorem lawdecodes_any (ps : List (Int × Int)) (ws : List Nat) (v vw : Value) (w : World) (hr : Rd w v 2 ps.length (flatP ps))
    (hw : Rd w vw 1 ws.length (flatW ws)) (hlt : ∀ x ∈ ws, x < 18446744073709551616) :
    Calls Tryd.prog 5 #[v, vw] w fun e w' => e = .returned (.bool true) ∧ Below w.heap.size w w' := by
  obtain ⟨A, cc, rfl, hnc, hcm, -⟩ := id hr.shape
  obtain ⟨A2, cc2, rfl, hnc2, hcm2, -⟩ := id hw.shape
  by_cases hlen : ps.length ≤ 300
  · have hd : decide (ps.length ≤ 300) = true := by simpa using hlen
    by_cases hwl : ws.length ≤ 300
    · have hdw : decide ((300 : Int) < (ws.length : Int)) = false := decide_eq_false (by omega)
      have Hlt := hide hlt
      cases hp : decodeS ps ws with
      | error c =>
        have Hp := hide hp
        clear hp hlt
        go_enter Tryd.func5, Tryd.ntmps5
        go_wp2_with fail
        refine (few_any _ _ _ _ hr).mono ?_
        rintro e w' ⟨rfl, rfl⟩
        rw [hd]
        go_wp2_with fail
        refine (decode_any ps ws _ _ _ hr hlen hw hwl Hlt.out).mono ?_
        rintro e w1 ⟨hb1, he⟩
        rw [Hp.out] at he
        subst he
        have hr1 := hr.below hb1
        have hw1 := hw.below hb1
        clear hr hw hd hdw
        go_wp2_with fail
        refine (plain_any ps _ _ hr1 hlen).mono ?_
        rintro e w2 ⟨v2, rfl, hown2, hb2⟩
        have hr2 := hr1.below hb2
        have hw2 := hw1.below hb2
        go_wp2_with fail
        refine (refdecode_any ps ws _ _ _ (Rd.of_own hown2) hlen hw2 hwl Hlt.out).mono ?_
        rintro e w3 ⟨hb3, he⟩
        rw [Hp.out] at he
        subst he
        clear hr1 hr2 hw1 hw2 hown2
        go_wp2_with fail
        refine wp_loop_rounds 1 ?_
        rw [rounds_succ]
        go_wp2_with fail
        refine (awake_any _).mono ?_
        rintro e w5 ⟨rfl, hb5⟩
        obtain ⟨hc5, hf5, hz5⟩ := bcell hb5
        go_wp2
        go_ret
        exact ⟨by simp, below2 (below3 hb1 hb2 hb3) hb5⟩
      | ok vs =>
        have Hp := hide hp
        have L := hide (decode_len hp)
        have O := hide (decode_order hp)
        clear hp hlt
        go_enter Tryd.func5, Tryd.ntmps5
        go_wp2_with fail
        refine (few_any _ _ _ _ hr).mono ?_
        rintro e w' ⟨rfl, rfl⟩
        rw [hd]
        go_wp2_with fail
        refine (decode_any ps ws _ _ _ hr hlen hw hwl Hlt.out).mono ?_
        rintro e w1 ⟨hb1, he⟩
        rw [Hp.out] at he
        obtain ⟨v1, he, hat1⟩ := he
        subst he
        have hr1 := hr.below hb1
        have hw1 := hw.below hb1
        clear hr hw hd hdw
        go_wp2_with fail
        refine (plain_any ps _ _ hr1 hlen).mono ?_
        rintro e w2 ⟨v2, rfl, hown2, hb2⟩
        have hr2 := hr1.below hb2
        have hw2 := hw1.below hb2
        go_wp2_with fail
        refine (refdecode_any ps ws _ _ _ (Rd.of_own hown2) hlen hw2 hwl Hlt.out).mono ?_
        rintro e w3 ⟨hb3, he⟩
        rw [Hp.out] at he
        obtain ⟨v3, he, hat3⟩ := he
        subst he
        have hat1' := (hat1.below hb2).below hb3
        obtain ⟨n, hn⟩ : ∃ n, ps.length = n := ⟨_, rfl⟩
        have hpos : 0 < n := by have := L.out; omega
        have hn256 : n ≤ 256 := by have := L.out; omega
        have Hn := hide hn
        rw [hn] at hat1' hat3
        obtain ⟨x1, o1, c1, rfl, hnc1, hcm1, hx1, hc1⟩ := hat1'.open_ hpos
        obtain ⟨x3, o3, c3, rfl, hnc3, hcm3, hx3, hc3⟩ := hat3.open_ hpos
        have Hc1 := hide hc1
        have Hc3 := hide hc3
        have hbw3 := below3 hb1 hb2 hb3
        clear hc1 hc3 hat1 hat1' hat3 hn hb1 hb2 hb3 hr1 hr2 hw1 hw2 hown2 hlen hwl
        go_wp2_with fail
        go_loopw [9] (fun i wr => ∃ k : Nat, k ≤ n ∧ i = .int .i64 k ∧ Below w3.heap.size w3 wr) (fun i _ => n - (intOf i).toNat)
        case atStart => exact ⟨0, Nat.zero_le _, rfl, Below.refl _ _⟩
        case round =>
          obtain ⟨k, hk, rfl, hbel⟩ := hrel
          by_cases hlt : k < n
          · have hkl : k < vs.length := by have := L.out; have := Hn.out; omega
            obtain ⟨hy0, hy1⟩ := flatV_at vs k hkl
            obtain ⟨u, hu⟩ : ∃ u, u = vs[k] := ⟨_, rfl⟩
            obtain ⟨ho1, ho2⟩ := O.out vs[k] (List.getElem_mem _)
            rw [← hu] at hy0 hy1 ho1 ho2
            have q0 := (hbel.cell (p := ⟨x1, o1 + k * 2, none⟩) hx1).trans (Hc1.out _ _ hy0)
            have q1 := (hbel.cell (p := ⟨x1, o1 + k * 2 + 1, none⟩) hx1).trans (Hc1.out _ _ hy1)
            have q2 := (hbel.cell (p := ⟨x3, o3 + k * 2, none⟩) hx3).trans (Hc3.out _ _ hy0)
            have q3 := (hbel.cell (p := ⟨x3, o3 + k * 2 + 1, none⟩) hx3).trans (Hc3.out _ _ hy1)
            clear hy0 hy1 hu hkl
            go_wp2_with fail
            go_quiet (fail)
            go_wp2
            go_roundw
            case rel => exact ⟨k + 1, by omega, by go_num, below_drewN hbel _⟩
            case measure => simp [intOf]; omega
          · have hkn : k = n := by omega
            subst hkn
            go_wp2_with fail
            refine (awake_any _).mono ?_
            rintro e w5 ⟨rfl, hb5⟩
            obtain ⟨hc5, hf5, hz5⟩ := bcell hb5
            go_wp2
            go_ret
            exact ⟨by simp, below2 (hbw3.trans (hbel.mono hbw3.size)) hb5⟩
    · have hdw : decide ((300 : Int) < (ws.length : Int)) = true := decide_eq_true (by omega)
      go_enter Tryd.func5, Tryd.ntmps5
      go_wp2_with fail
      refine (few_any _ _ _ _ hr).mono ?_
      rintro e w' ⟨rfl, rfl⟩
      rw [hd]
      go_wp2_with fail
      refine (awake_any _).mono ?_
      rintro e w1 ⟨rfl, hb1⟩
      obtain ⟨hc1, hf1, hz1⟩ := bcell hb1
      go_wp2
      go_ret
      exact ⟨by simp, hb1⟩
  · have hd : decide (ps.length ≤ 300) = false := by simpa using hlen
    go_enter Tryd.func5, Tryd.ntmps5
    go_wp2_with fail
    refine (few_any _ _ _ _ hr).mono ?_
    rintro e w' ⟨rfl, rfl⟩
    rw [hd]
    go_wp2_with fail
    refine (awake_any _).mono ?_
    rintro e w1 ⟨rfl, hb1⟩
    obtain ⟨hc1, hf1, hz1⟩ := bcell hb1
    go_wp2
    go_ret
    exact ⟨by simp, hb1⟩

end Go.Proofs.YtkcpiokgcbkofaaDoor
