/-
  The walk of the law CodecPlaces: it answers true. Conditions: a slice of parts.
-/
import Derived.Test.YtkcpiokgcbkofaaDoorAwake
namespace Go.Proofs.YtkcpiokgcbkofaaDoor
open Go.RowKit

set_option maxRecDepth 100000 in
set_option maxHeartbeats 1600000 in
theorem lawplaces_any (ps : List (Int × Int)) (v : Value) (w : World) (hr : Rd w v 2 ps.length (flatP ps)) :
    Calls Tryd.prog 3 #[v] w fun e w' => e = .returned (.bool true) ∧ Below w.heap.size w w' := by
  by_cases hlen : ps.length ≤ 300
  · have Hr := hide hr
    have hd : decide (ps.length ≤ 300) = true := by simpa using hlen
    cases hp : placesS ps with
    | error c =>
      have hcs : checkS ps = c := by rw [checkS, hp]
      have Hp := hide hp
      clear hp
      go_enter Tryd.func3, Tryd.ntmps3
      go_wp2_with fail
      refine (few_any _ _ _ _ hr).mono ?_
      rintro e w' ⟨rfl, rfl⟩
      rw [hd]
      go_wp2_with fail
      refine (places_any ps _ _ hr hlen).mono ?_
      rintro e w1 ⟨hb1, he⟩
      rw [Hp.out] at he
      subst he
      have hr1 := hr.below hb1
      clear hr hd
      go_wp2_with fail
      refine (plain_any ps _ _ hr1 hlen).mono ?_
      rintro e w2 ⟨v2, rfl, hown2, hb2⟩
      have hr2 := hr1.below hb2
      go_wp2_with fail
      refine (refplaces_any ps _ _ (Rd.of_own hown2) hlen).mono ?_
      rintro e w3 ⟨hb3, he⟩
      rw [Hp.out] at he
      subst he
      have hr3 := hr2.below hb3
      clear hr1 hr2 hown2
      go_wp2_with fail
      refine (check_any ps _ _ hr3 hlen).mono ?_
      rintro e w4 ⟨rfl, hb4⟩
      obtain ⟨hc4, hf4, hz4⟩ := bcell hb4
      rw [hcs]
      clear hr3 hcs
      go_wp2_with fail
      refine wp_loop_rounds 1 ?_
      rw [rounds_succ]
      go_wp2_with fail
      refine (awake_any _).mono ?_
      rintro e w5 ⟨rfl, hb5⟩
      obtain ⟨hc5, hf5, hz5⟩ := bcell hb5
      go_wp2
      go_ret
      exact ⟨by simp, below2 (below3 (below2 hb1 hb2) hb3 hb4) hb5⟩
    | ok r =>
      obtain ⟨acc, m⟩ := r
      have hcs : checkS ps = 0 := by rw [checkS, hp]
      have Hp := hide hp
      have F := hide (places_facts hp)
      clear hp
      go_enter Tryd.func3, Tryd.ntmps3
      go_wp2_with fail
      refine (few_any _ _ _ _ hr).mono ?_
      rintro e w' ⟨rfl, rfl⟩
      rw [hd]
      go_wp2_with fail
      refine (places_any ps _ _ hr hlen).mono ?_
      rintro e w1 ⟨hb1, he⟩
      rw [Hp.out] at he
      obtain ⟨v1, he, hown1⟩ := he
      subst he
      have hr1 := hr.below hb1
      clear hr hd
      go_wp2_with fail
      refine (plain_any ps _ _ hr1 hlen).mono ?_
      rintro e w2 ⟨v2, rfl, hown2, hb2⟩
      have hr2 := hr1.below hb2
      go_wp2_with fail
      refine (refplaces_any ps _ _ (Rd.of_own hown2) hlen).mono ?_
      rintro e w3 ⟨hb3, he⟩
      rw [Hp.out] at he
      obtain ⟨v3, he, hown3⟩ := he
      subst he
      have hr3 := hr2.below hb3
      clear hr1 hr2 hown2
      have hat1 : Rd w3 v1 2 acc.length (flatA acc) := ((Rd.of_own hown1).below hb2).below hb3
      have hat3 : Rd w3 v3 2 acc.length (flatA acc) := Rd.of_own hown3
      obtain ⟨n, hn⟩ : ∃ n, acc.length = n := ⟨_, rfl⟩
      have hpos : 0 < n := by have := F.out; omega
      have hn256 : n ≤ 256 := by have := F.out; omega
      have Hn := hide hn
      rw [hn] at hat1 hat3
      obtain ⟨x1, o1, c1, rfl, hnc1, hcm1, hx1, hc1⟩ := hat1.open_ hpos
      obtain ⟨x3, o3, c3, rfl, hnc3, hcm3, hx3, hc3⟩ := hat3.open_ hpos
      have Hc1 := hide hc1
      have Hc3 := hide hc3
      have hbw3 := below3 hb1 hb2 hb3
      clear hc1 hc3 hat1 hat3 hown1 hown3 hn hb1 hb2 hb3
      go_wp2_with fail
      refine (check_any ps _ _ hr3 hlen).mono ?_
      rintro e w4 ⟨rfl, hb4⟩
      obtain ⟨hc4, hf4, hz4⟩ := bcell hb4
      rw [hcs]
      clear hr3 hcs hc4 hf4 hz4
      have hneq := neq_arr2
      go_wp2_with fail
      go_loopw [9] (fun i wr => ∃ k : Nat, k ≤ n ∧ i = .int .i64 k ∧ Below w3.heap.size w3 wr) (fun i _ => n - (intOf i).toNat)
      case atStart => exact ⟨0, Nat.zero_le _, rfl, hb4⟩
      case round =>
        obtain ⟨k, hk, rfl, hbel⟩ := hrel
        by_cases hlt : k < n
        · have hkl : k < acc.length := by have := Hn.out; omega
          obtain ⟨hy0, hy1⟩ := flatA_at acc k hkl
          obtain ⟨a, ha⟩ : ∃ q : Nat, q = acc[k].1 := ⟨_, rfl⟩
          obtain ⟨t, ht⟩ : ∃ q : Nat, q = acc[k].2 := ⟨_, rfl⟩
          rw [← ha] at hy0
          rw [← ht] at hy1
          have q0 := (hbel.cell (p := ⟨x1, o1 + k * 2, none⟩) hx1).trans (Hc1.out _ _ hy0)
          have q1 := (hbel.cell (p := ⟨x1, o1 + k * 2 + 1, none⟩) hx1).trans (Hc1.out _ _ hy1)
          have q2 := (hbel.cell (p := ⟨x3, o3 + k * 2, none⟩) hx3).trans (Hc3.out _ _ hy0)
          have q3 := (hbel.cell (p := ⟨x3, o3 + k * 2 + 1, none⟩) hx3).trans (Hc3.out _ _ hy1)
          clear hy0 hy1 ha ht hkl
          go_wp2_with fail
          go_quiet (fail)
          go_wp2
          go_roundw
          case rel => exact ⟨k + 1, by omega, by go_num, below_drewN hbel _⟩
          case measure => simp [intOf]; omega
        · have hkn : k = n := by omega
          subst hkn
          clear hneq
          go_wp2_with fail
          refine (awake_any _).mono ?_
          rintro e w5 ⟨rfl, hb5⟩
          obtain ⟨hc5, hf5, hz5⟩ := bcell hb5
          go_wp2
          go_ret
          exact ⟨by simp, below2 (hbw3.trans (hbel.mono hbw3.size)) hb5⟩
  · have hd : decide (ps.length ≤ 300) = false := by simpa using hlen
    go_enter Tryd.func3, Tryd.ntmps3
    go_wp2_with fail
    refine (few_any _ _ _ _ hr).mono ?_
    rintro e w' ⟨rfl, rfl⟩
    rw [hd]
    go_wp2_with fail
    refine (awake_any _).mono ?_
    rintro e w1 ⟨rfl, hb1⟩
    obtain ⟨hc1, hf1, hz1⟩ := bcell hb1
    go_wp2
    go_ret
    exact ⟨by simp, hb1⟩

end Go.Proofs.YtkcpiokgcbkofaaDoor
