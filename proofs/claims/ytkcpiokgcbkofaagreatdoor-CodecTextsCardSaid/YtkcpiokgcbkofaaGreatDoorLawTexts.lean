/-
  The walk of the law CodecTexts: it answers true. Conditions: a slice of parts, a text; the library's one variable that Split reads holds an int.
-/
import Derived.Test.YtkcpiokgcbkofaaGreatDoorAwake
import Derived.Test.YtkcpiokgcbkofaaGreatDoorRefParse
namespace Go.Proofs.YtkcpiokgcbkofaaGreatDoor
open Go.RowKit

set_option maxRecDepth 100000 in
set_option maxHeartbeats 1600000 in
theorem print_bad (ps : List (Int × Int)) (c : Int) (v : Value) (w : World) (hr : Rd w v 2 ps.length (flatP ps)) (hlen : ps.length ≤ 300) (hp : placesS ps = .error c) :
    Calls Tryz.prog 6 #[v] w fun e w' => e = .returned (.tuple #[.string ⟨#[]⟩, .int .i64 c]) ∧ Below w.heap.size w w' := by
  have HC := hide (check_any ps v w hr hlen)
  have hcs : checkS ps = c := by rw [checkS, hp]
  have hc0 : (c != 0) = true := by rcases places_code hp with h | h | h <;> subst h <;> rfl
  rw [hcs] at HC
  clear hcs hp hr
  go_enter Tryz.func6, Tryz.ntmps6
  go_wp2_with (go_at_call 14; refine HC.out.mono ?_; rintro e w1 ⟨rfl, hb⟩)
  go_ret2
  exact ⟨by simp, hb⟩

/-- Both print the same. -/
theorem both_print (ps : List (Int × Int)) (hlen : ps.length ≤ 300) : ∃ (T : ByteArray) (c : Int),
    (∀ v w, Rd w v 2 ps.length (flatP ps) → Calls Tryz.prog 6 #[v] w fun e w' => e = .returned (.tuple #[.string T, .int .i64 c]) ∧ Below w.heap.size w w') ∧
    (∀ v w, Rd w v 2 ps.length (flatP ps) → Calls Tryz.prog 7 #[v] w fun e w' => e = .returned (.tuple #[.string T, .int .i64 c]) ∧ Below w.heap.size w w') := by
  cases hp : placesS ps with
  | error c => exact ⟨⟨#[]⟩, c, fun v w hr => print_bad ps c v w hr hlen hp, fun v w hr => refprint_err ps c v w hr hlen hp⟩
  | ok r => exact ⟨⟨(printS ps).toArray⟩, 0, fun v w hr => print_ok ps r.1 r.2 v w hr hlen hp, fun v w hr => refprint_ok ps r.1 r.2 v w hr hlen hp⟩

theorem cell_kept {w x : World} {v : Value} (hm : w.cell? ⟨1, 0, none⟩ = some v) (hb : Below w.heap.size w x) : x.cell? ⟨1, 0, none⟩ = some v :=
  (hb.cell (p := ⟨1, 0, none⟩) (block_lt_of_cell hm)).trans hm

theorem parse_len {l : List UInt8} {qs : List (Int × Int)} (h : parseS l = .ok qs) : 0 < qs.length ∧ qs.length ≤ 256 := by
  have hck := (print_parse h).1
  cases hp : placesS qs with
  | error c =>
    rw [checkS, hp] at hck
    have hck' : c = 0 := hck
    rcases places_code hp with h | h | h <;> omega
  | ok r =>
    have F := places_facts (pl := r.1) (m := r.2) hp
    omega

set_option maxRecDepth 100000 in
set_option maxHeartbeats 1600000 in
theorem lawtexts_any (ps : List (Int × Int)) (s : ByteArray) (mx : Int) (v : Value) (w : World) (hr : Rd w v 2 ps.length (flatP ps)) (hm : w.cell? ⟨1, 0, none⟩ = some (.int .i64 mx)) :
    Calls Tryz.prog 3 #[v, .string s] w fun e w' => e = .returned (.bool true) ∧ Below w.heap.size w w' := by
  obtain ⟨A, cc, rfl, hnc, hcm, -⟩ := id hr.shape
  by_cases hlen : ps.length ≤ 300
  · have hd : decide (ps.length ≤ 300) = true := by simpa using hlen
    by_cases hsl : s.size ≤ 3000
    · have hdw : decide ((3000 : Int) < (s.size : Int)) = false := decide_eq_false (by omega)
      obtain ⟨T, c, hP, hQ⟩ := both_print ps hlen
      have HP := hide hP
      have HQ := hide hQ
      clear hP hQ
      cases hq : parseS s.data.toList with
      | error c' =>
        have Hq := hide hq
        clear hq
        go_enter Tryz.func3, Tryz.ntmps3
        go_wp2_with fail
        refine (few_any _ _ _ _ hr).mono ?_
        rintro e w' ⟨rfl, rfl⟩
        rw [hd]
        go_wp2_with fail
        refine (HP.out _ _ hr).mono ?_
        rintro e w1 ⟨rfl, hb1⟩
        have hr1 := hr.below hb1
        go_wp2_with fail
        refine (plain_any ps _ _ hr1 hlen).mono ?_
        rintro e w2 ⟨v2, rfl, hown2, hb2⟩
        go_wp2_with fail
        refine (HQ.out _ _ (Rd.of_own hown2)).mono ?_
        rintro e w3 ⟨rfl, hb3⟩
        have hbw3 := below3 hb1 hb2 hb3
        go_wp2_with fail
        refine (parse_any s mx _ hsl (cell_kept hm hbw3)).mono ?_
        rintro e w4 ⟨hb4, he⟩
        rw [Hq.out] at he
        subst he
        go_wp2_with fail
        refine (refparse_any s _ hsl).mono ?_
        rintro e w5 ⟨hb5, he⟩
        rw [Hq.out] at he
        subst he
        have hbw5 := below3 hbw3 hb4 hb5
        clear hr hr1 hown2 hb1 hb2 hb3 hb4 hb5 hbw3 HP HQ hd hdw
        go_wp2_with fail
        refine wp_loop_rounds 1 ?_
        rw [rounds_succ]
        go_wp2_with fail
        refine (awake_any _).mono ?_
        rintro e w6 ⟨rfl, hb6⟩
        obtain ⟨hc6, hf6, hz6⟩ := bcell hb6
        go_wp2
        go_ret
        exact ⟨by simp, below2 hbw5 hb6⟩
      | ok qs =>
        obtain ⟨hpos, hn256⟩ := parse_len hq
        have Hq := hide hq
        clear hq
        go_enter Tryz.func3, Tryz.ntmps3
        go_wp2_with fail
        refine (few_any _ _ _ _ hr).mono ?_
        rintro e w' ⟨rfl, rfl⟩
        rw [hd]
        go_wp2_with fail
        refine (HP.out _ _ hr).mono ?_
        rintro e w1 ⟨rfl, hb1⟩
        have hr1 := hr.below hb1
        go_wp2_with fail
        refine (plain_any ps _ _ hr1 hlen).mono ?_
        rintro e w2 ⟨v2, rfl, hown2, hb2⟩
        go_wp2_with fail
        refine (HQ.out _ _ (Rd.of_own hown2)).mono ?_
        rintro e w3 ⟨rfl, hb3⟩
        have hbw3 := below3 hb1 hb2 hb3
        go_wp2_with fail
        refine (parse_any s mx _ hsl (cell_kept hm hbw3)).mono ?_
        rintro e w4 ⟨hb4, he⟩
        rw [Hq.out] at he
        obtain ⟨v4, he, hat4⟩ := he
        subst he
        go_wp2_with fail
        refine (refparse_any s _ hsl).mono ?_
        rintro e w5 ⟨hb5, he⟩
        rw [Hq.out] at he
        obtain ⟨v5, he, hat5⟩ := he
        subst he
        have hbw5 := below3 hbw3 hb4 hb5
        have hat4' := hat4.below hb5
        obtain ⟨x1, o1, c1, rfl, hnc1, hcm1, hx1, hc1⟩ := hat4'.open_ hpos
        obtain ⟨x3, o3, c3, rfl, hnc3, hcm3, hx3, hc3⟩ := hat5.open_ hpos
        have Hc1 := hide hc1
        have Hc3 := hide hc3
        clear hc1 hc3 hat4 hat4' hat5 hr hr1 hown2 hb1 hb2 hb3 hb4 hb5 hbw3 HP HQ hd hdw
        go_wp2_with fail
        go_loopw [13] (fun i wr => ∃ k : Nat, k ≤ qs.length ∧ i = .int .i64 k ∧ Below w5.heap.size w5 wr) (fun i _ => qs.length - (intOf i).toNat)
        case atStart => exact ⟨0, Nat.zero_le _, rfl, Below.refl _ _⟩
        case round =>
          obtain ⟨k, hk, rfl, hbel⟩ := hrel
          by_cases hlt : k < qs.length
          · obtain ⟨hy0, hy1⟩ := flatP_at qs k hlt
            obtain ⟨kd, hkd⟩ : ∃ q, q = qs[k].1 := ⟨_, rfl⟩
            obtain ⟨ln, hln⟩ : ∃ q, q = qs[k].2 := ⟨_, rfl⟩
            rw [← hkd] at hy0
            rw [← hln] at hy1
            have q0 := (hbel.cell (p := ⟨x1, o1 + k * 2, none⟩) hx1).trans (Hc1.out _ _ hy0)
            have q1 := (hbel.cell (p := ⟨x1, o1 + k * 2 + 1, none⟩) hx1).trans (Hc1.out _ _ hy1)
            have q2 := (hbel.cell (p := ⟨x3, o3 + k * 2, none⟩) hx3).trans (Hc3.out _ _ hy0)
            have q3 := (hbel.cell (p := ⟨x3, o3 + k * 2 + 1, none⟩) hx3).trans (Hc3.out _ _ hy1)
            clear hy0 hy1 hkd hln
            go_wp2_with fail
            go_quiet (fail)
            go_wp2
            go_roundw
            case rel => exact ⟨k + 1, by omega, by go_num, below_drewN hbel _⟩
            case measure => simp [intOf]; omega
          · have hkn : k = qs.length := by omega
            subst hkn
            go_wp2_with fail
            refine (awake_any _).mono ?_
            rintro e w6 ⟨rfl, hb6⟩
            obtain ⟨hc6, hf6, hz6⟩ := bcell hb6
            go_wp2
            go_ret
            exact ⟨by simp, below2 (hbw5.trans (hbel.mono hbw5.size)) hb6⟩
    · have hdw : decide ((3000 : Int) < (s.size : Int)) = true := decide_eq_true (by omega)
      go_enter Tryz.func3, Tryz.ntmps3
      go_wp2_with fail
      refine (few_any _ _ _ _ hr).mono ?_
      rintro e w' ⟨rfl, rfl⟩
      rw [hd]
      go_wp2_with fail
      refine (awake_any _).mono ?_
      rintro e w1 ⟨rfl, hb1⟩
      obtain ⟨hc1, hf1, hz1⟩ := bcell hb1
      go_wp2
      go_ret
      exact ⟨by simp, hb1⟩
  · have hd : decide (ps.length ≤ 300) = false := by simpa using hlen
    go_enter Tryz.func3, Tryz.ntmps3
    go_wp2_with fail
    refine (few_any _ _ _ _ hr).mono ?_
    rintro e w' ⟨rfl, rfl⟩
    rw [hd]
    go_wp2_with fail
    refine (awake_any _).mono ?_
    rintro e w1 ⟨rfl, hb1⟩
    obtain ⟨hc1, hf1, hz1⟩ := bcell hb1
    go_wp2
    go_ret
    exact ⟨by simp, hb1⟩

end Go.Proofs.YtkcpiokgcbkofaaGreatDoor
