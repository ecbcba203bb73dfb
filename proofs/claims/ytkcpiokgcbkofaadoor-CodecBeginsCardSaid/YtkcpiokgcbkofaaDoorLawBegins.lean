/-
  The walk of the law CodecBegins: it answers true. Conditions: a slice of parts, a number.
-/
import Derived.Test.YtkcpiokgcbkofaaDoorAwake
import Derived.Test.YtkcpiokgcbkofaaDoorBeginFacts
namespace Go.Proofs.YtkcpiokgcbkofaaDoor
open Go.RowKit

theorem i64_fit {x : Int} (h0 : -9223372036854775808 ≤ x) (h1 : x < 9223372036854775808) : IntKind.i64.wrap x = x := by
  simp only [IntKind.wrap, IntKind.bits, IntKind.signed]
  simp
  omega

theorem flatP_len2 (ps : List (Int × Int)) : (flatP ps).length = ps.length * 2 := by
  induction ps with
  | nil => rfl
  | cons p ps ih => simp [flatP] at ih ⊢; omega

/-- The first k parts of a slice of parts. -/
theorem flatP_take_at {ps : List (Int × Int)} {k j : Nat} {u : Value} (h : (flatP (ps.take k))[j]? = some u) : (flatP ps)[j]? = some u := by
  have e : flatP ps = flatP (ps.take k) ++ flatP (ps.drop k) := by rw [flatP, flatP, flatP, ← List.flatMap_append, List.take_append_drop]
  have hj : j < (flatP (ps.take k)).length := (List.getElem?_eq_some_iff.1 h).1
  rw [e, List.getElem?_append_left hj, h]

set_option maxRecDepth 100000 in
set_option maxHeartbeats 1600000 in
theorem lawbegins_any (ps : List (Int × Int)) (v : Value) (k : Int) (w : World) (hr : Rd w v 2 ps.length (flatP ps)) :
    Calls Tryd.prog 4 #[v, .int .i64 k] w fun e w' => e = .returned (.bool true) ∧ Below w.heap.size w w' := by
  by_cases hlen : ps.length ≤ 300
  · have hd : decide (ps.length ≤ 300) = true := by simpa using hlen
    cases hp : placesS ps with
    | error c =>
      have hcs : checkS ps = c := by rw [checkS, hp]
      have hc0 : (c != 0) = true := by rcases places_code hp with h | h | h <;> subst h <;> rfl
      clear hp
      obtain ⟨A, cc, rfl, hnc, hcm, -⟩ := hr.shape
      go_enter Tryd.func4, Tryd.ntmps4
      go_wp2_with fail
      refine (few_any _ _ _ _ hr).mono ?_
      rintro e w' ⟨rfl, rfl⟩
      rw [hd]
      go_wp2_with fail
      refine (check_any ps _ _ hr hlen).mono ?_
      rintro e w1 ⟨rfl, hb1⟩
      obtain ⟨hc1, hf1, hz1⟩ := bcell hb1
      rw [hcs]
      clear hr hcs
      go_wp2_with fail
      go_wp2_with fail
      refine (awake_any _).mono ?_
      rintro e w2 ⟨rfl, hb2⟩
      obtain ⟨hc2, hf2, hz2⟩ := bcell hb2
      go_wp2
      go_ret
      exact ⟨by simp, below2 hb1 hb2⟩
    | ok r =>
      obtain ⟨acc, m⟩ := r
      have hcs : checkS ps = 0 := by rw [checkS, hp]
      by_cases hk : 1 ≤ k ∧ k ≤ ps.length
      · obtain ⟨kn, rfl⟩ : ∃ kn : Nat, k = kn := ⟨k.toNat, by omega⟩
        have hk1 : 0 < kn := by omega
        have hkn : kn ≤ ps.length := by omega
        have hdk1 : decide ((kn : Int) < 1) = false := decide_eq_false (by omega)
        have hdk2 : decide (ps.length < kn) = false := decide_eq_false (by omega)
        clear hk
        obtain ⟨m2, hp2, hmm⟩ := places_take hp hk1 hkn
        have F := hide (places_facts hp)
        have F2 := hide (places_facts hp2)
        have CH := hide (places_chain hp)
        have Hp := hide hp
        have Hp2 := hide hp2
        have et : (ps.take kn).length = kn := by rw [List.length_take]; omega
        have htl : (ps.take kn).length ≤ 300 := by omega
        have Et := hide et
        clear hp hp2
        obtain ⟨b0, o0, c0, rfl, hnc, hcm, hb0, hc0⟩ := hr.open_ (show 0 < ps.length by omega)
        have hrk : Rd w (.slice (some ⟨b0, o0, none⟩) kn c0) 2 (ps.take kn).length (flatP (ps.take kn)) := ⟨flatP_len2 _, some ⟨b0, o0, none⟩, c0, by rw [et], by omega, hcm, fun _ => ⟨b0, o0, rfl, hb0, fun j u h => hc0 j u (flatP_take_at h)⟩⟩
        have Hc0 := hide hc0
        have hn256 : ps.length ≤ 256 := by have := F.out; omega
        have Hla := hide (show acc.length = ps.length by have := F.out; omega)
        have Hlk := hide (show (acc.take kn).length = kn by have := F2.out; have := Et.out; omega)
        have hdm0 : decide (m < m2) = false := decide_eq_false (by omega)
        have hdm1 : decide ((m2 : Int) < 1) = false := decide_eq_false (by have := F2.out; omega)
        have hdm2 : decide ((64 : Int) < (m : Int)) = false := decide_eq_false (by have := F.out; omega)
        have hkc : kn ≤ c0 := by omega
        clear hc0 et
        go_enter Tryd.func4, Tryd.ntmps4
        go_wp2_with fail
        refine (few_any _ _ _ _ hr).mono ?_
        rintro e w' ⟨rfl, rfl⟩
        rw [hd]
        go_wp2_with fail
        refine (check_any ps _ _ hr hlen).mono ?_
        rintro e w1 ⟨rfl, hb1⟩
        obtain ⟨hc1, hf1, hz1⟩ := bcell hb1
        rw [hcs]
        have hr1 := hr.below hb1
        have hrk1 := hrk.below hb1
        clear hr hrk hd hcs hc1 hf1 hz1
        go_wp2_with fail
        refine (places_any ps _ _ hr1 hlen).mono ?_
        rintro e w2 ⟨hb2, he⟩
        rw [Hp.out] at he
        obtain ⟨v2, he, hown2⟩ := he
        subst he
        have hrk2 := hrk1.below hb2
        clear hr1 hrk1
        go_wp2_with fail
        refine (places_any (ps.take kn) _ _ hrk2 htl).mono ?_
        rintro e w3 ⟨hb3, he⟩
        rw [Hp2.out] at he
        obtain ⟨v3, he, hown3⟩ := he
        subst he
        have hat2 : Rd w3 v2 2 acc.length (flatA acc) := (Rd.of_own hown2).below hb3
        have hat3 : Rd w3 v3 2 (acc.take kn).length (flatA (acc.take kn)) := Rd.of_own hown3
        rw [Hla.out] at hat2
        rw [Hlk.out] at hat3
        obtain ⟨x2, o2, c2, rfl, hnc2, hcm2, hx2, hc2⟩ := hat2.open_ (show 0 < ps.length by omega)
        obtain ⟨x3, o3, c3, rfl, hnc3, hcm3, hx3, hc3⟩ := hat3.open_ hk1
        have Hc2 := hide hc2
        have Hc3 := hide hc3
        have hbw3 := below3 hb1 hb2 hb3
        have hb0' : b0 < w3.heap.size := Nat.lt_of_lt_of_le hb0 hbw3.size
        clear hc2 hc3 hat2 hat3 hown2 hown3 hb1 hb2 hb3 htl hrk2
        have hneq := neq_arr2
        go_wp2_with fail
        go_loopw [11] (fun i wr => ∃ q : Nat, q ≤ kn ∧ i = .int .i64 q ∧ Below w3.heap.size w3 wr) (fun i _ => kn - (intOf i).toNat)
        case atStart => exact ⟨0, Nat.zero_le _, rfl, Below.refl _ _⟩
        case round =>
          obtain ⟨q, hq, rfl, hbel⟩ := hrel
          by_cases hlt : q < kn
          · have hql : q < acc.length := by have := Hla.out; omega
            have hqt : q < (acc.take kn).length := by have := Hlk.out; omega
            have hqp : q < ps.length := by omega
            have hqe : (acc.take kn)[q] = acc[q] := by simp
            obtain ⟨hy0, hy1⟩ := flatA_at acc q hql
            obtain ⟨hz0, hz1⟩ := flatA_at (acc.take kn) q hqt
            obtain ⟨hp0, hp1⟩ := flatP_at ps q hqp
            rw [hqe] at hz0 hz1
            have R := F.out.2.2.2.2.2 q hqp hql
            have R2 := F2.out.2.2.2.2.2 q (by have := Et.out; omega) hqt
            rw [hqe] at R2
            have ep : (ps.take kn)[q]'(by have := Et.out; omega) = ps[q] := by simp
            obtain ⟨a, ha⟩ : ∃ z : Nat, z = acc[q].1 := ⟨_, rfl⟩
            obtain ⟨t, ht⟩ : ∃ z : Nat, z = acc[q].2 := ⟨_, rfl⟩
            obtain ⟨ln, hln⟩ : ∃ z : Int, z = ps[q].2 := ⟨_, rfl⟩
            have hlo := lo_bd ps[q].1
            have hfit : (t : Int) + ln ≤ 64 := by have := R.fits; omega
            have hln0 : 0 ≤ ln := by have := R.len; omega
            have ham : ¬ ((m2 : Int) ≤ (a : Int)) := by have := R2.word; omega
            rw [← ha] at hy0 hz0
            rw [← ht] at hy1 hz1
            rw [← hln] at hp1
            have q0 := (hbel.cell (p := ⟨x2, o2 + q * 2, none⟩) hx2).trans (Hc2.out _ _ hy0)
            have q1 := (hbel.cell (p := ⟨x2, o2 + q * 2 + 1, none⟩) hx2).trans (Hc2.out _ _ hy1)
            have q2 := (hbel.cell (p := ⟨x3, o3 + q * 2, none⟩) hx3).trans (Hc3.out _ _ hz0)
            have q3 := (hbel.cell (p := ⟨x3, o3 + q * 2 + 1, none⟩) hx3).trans (Hc3.out _ _ hz1)
            have q4 := (hbel.cell (p := ⟨b0, o0 + q * 2 + 1, none⟩) hb0').trans ((hbw3.cell (p := ⟨b0, o0 + q * 2 + 1, none⟩) hb0).trans (Hc0.out _ _ hp1))
            have ht64 : t ≤ 64 := by omega
            have hw1 : IntKind.i64.wrap ((t : Int) + ln) = (t : Int) + ln := i64_fit (by omega) (by omega)
            have hd1 : decide ((64 : Int) < (t : Int) + ln) = false := decide_eq_false (by omega)
            have hd2 : decide (m2 ≤ a) = false := decide_eq_false (by omega)
            have hd5 : decide ((t : Int) < 0) = false := decide_eq_false (by omega)
            clear hy0 hy1 hz0 hz1 hp0 hp1 hqe R R2 ep hlo
            by_cases hq0 : q = 0
            · have hg : decide (0 < q) = false := decide_eq_false (by omega)
              clear ha ht hln hq0
              go_wp2_with fail
              go_quiet (fail)
              go_wp2_with fail
              go_quiet (fail)
              go_wp2
              go_roundw
              case rel => exact ⟨q + 1, by omega, by go_num, below_drewN hbel _⟩
              case measure => simp [intOf]; omega
            · have hg : decide (0 < q) = true := decide_eq_true (by omega)
              obtain ⟨j, hj⟩ : ∃ j, q = j + 1 := ⟨q - 1, by omega⟩
              have hjl : j < acc.length := by omega
              have hjp : j < ps.length := by omega
              have hjk : j < kn := by omega
              have ch := CH.out j (by omega) hjp
              obtain ⟨a', ha'⟩ : ∃ z : Nat, z = acc[j].1 := ⟨_, rfl⟩
              obtain ⟨t', ht'⟩ : ∃ z : Nat, z = acc[j].2 := ⟨_, rfl⟩
              obtain ⟨ln', hln'⟩ : ∃ z : Int, z = ps[j].2 := ⟨_, rfl⟩
              have hw2 : IntKind.i64.wrap ((q : Int) - 1) = (j : Int) := by rw [i64_fit (by omega) (by omega)]; omega
              have haa : a' ≤ a := by rw [ha, ha']; subst hj; exact ch.1
              have htt : a = a' → (t : Int) = (t' : Int) + ln' := by rw [ha, ha', ht, ht', hln']; subst hj; exact ch.2
              obtain ⟨hy0, hy1⟩ := flatA_at acc j hjl
              have hp1 := (flatP_at ps j hjp).2
              rw [← ha'] at hy0
              rw [← ht'] at hy1
              rw [← hln'] at hp1
              have q5 := (hbel.cell (p := ⟨x2, o2 + j * 2, none⟩) hx2).trans (Hc2.out _ _ hy0)
              have q6 := (hbel.cell (p := ⟨x2, o2 + j * 2 + 1, none⟩) hx2).trans (Hc2.out _ _ hy1)
              have q7 := (hbel.cell (p := ⟨b0, o0 + j * 2 + 1, none⟩) hb0').trans ((hbw3.cell (p := ⟨b0, o0 + j * 2 + 1, none⟩) hb0).trans (Hc0.out _ _ hp1))
              have hd3 : decide (a < a') = false := decide_eq_false (by omega)
              clear ha ht hln hq0 ha' ht' hln' ch hy0 hy1 hp1
              have Hj := hide hj
              clear hj
              go_wp2_with fail
              go_quiet (fail)
              by_cases hae : a = a'
              · have h1 := htt hae
                have hw3 : IntKind.i64.wrap ((t' : Int) + ln') = (t : Int) := by rw [← h1, i64_fit (by omega) (by omega)]
                subst hae
                clear htt h1
                go_wp2_with fail
                go_quiet (fail)
                go_wp2
                go_roundw
                case rel => exact ⟨q + 1, by omega, by go_num, below_drewN hbel _⟩
                case measure => simp [intOf]; omega
              · have hd4 : ((a : Int) == (a' : Int)) = false := by simp; omega
                clear htt
                go_wp2_with fail
                go_quiet (fail)
                go_wp2
                go_roundw
                case rel => exact ⟨q + 1, by omega, by go_num, below_drewN hbel _⟩
                case measure => simp [intOf]; omega
          · have hkn2 : q = kn := by omega
            subst hkn2
            clear hneq
            go_wp2_with fail
            refine (awake_any _).mono ?_
            rintro e w5 ⟨rfl, hb5⟩
            obtain ⟨hc5, hf5, hz5⟩ := bcell hb5
            go_wp2
            go_ret
            exact ⟨by simp, below2 (hbw3.trans (hbel.mono hbw3.size)) hb5⟩
      · clear hp
        obtain ⟨A, cc, rfl, hnc, hcm, -⟩ := id hr.shape
        go_enter Tryd.func4, Tryd.ntmps4
        go_wp2_with fail
        refine (few_any _ _ _ _ hr).mono ?_
        rintro e w' ⟨rfl, rfl⟩
        rw [hd]
        go_wp2_with fail
        refine (check_any ps _ _ hr hlen).mono ?_
        rintro e w1 ⟨rfl, hb1⟩
        obtain ⟨hc1, hf1, hz1⟩ := bcell hb1
        rw [hcs]
        clear hr hcs
        have hk' : k < 1 ∨ (ps.length : Int) < k := by omega
        by_cases hk1 : k < 1
        · go_wp2_with fail
          go_wp2_with fail
          refine (awake_any _).mono ?_
          rintro e w2 ⟨rfl, hb2⟩
          obtain ⟨hc2, hf2, hz2⟩ := bcell hb2
          go_wp2
          go_ret
          exact ⟨by simp, below2 hb1 hb2⟩
        · have hk2 : (ps.length : Int) < k := by omega
          clear hk hk'
          go_wp2_with fail
          go_wp2_with fail
          refine (awake_any _).mono ?_
          rintro e w2 ⟨rfl, hb2⟩
          obtain ⟨hc2, hf2, hz2⟩ := bcell hb2
          go_wp2
          go_ret
          exact ⟨by simp, below2 hb1 hb2⟩
  · have hd : decide (ps.length ≤ 300) = false := by simpa using hlen
    obtain ⟨A, cc, rfl, hnc, hcm, -⟩ := id hr.shape
    go_enter Tryd.func4, Tryd.ntmps4
    go_wp2_with fail
    refine (few_any _ _ _ _ hr).mono ?_
    rintro e w' ⟨rfl, rfl⟩
    rw [hd]
    go_wp2_with fail
    refine (awake_any _).mono ?_
    rintro e w1 ⟨rfl, hb1⟩
    obtain ⟨hc1, hf1, hz1⟩ := bcell hb1
    go_wp2
    go_ret
    exact ⟨by simp, hb1⟩

end Go.Proofs.YtkcpiokgcbkofaaDoor
