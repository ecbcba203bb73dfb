/-
  The walk of the law CodecReads: it answers true. Conditions: a slice of parts, a text; the library's one variable that Split reads holds an int.
-/
import Derived.Test.YtkcpiokgcbkofaaDoorAwake
import Derived.Test.YtkcpiokgcbkofaaDoorParse
namespace Go.Proofs.YtkcpiokgcbkofaaDoor
open Go.RowKit

set_option maxRecDepth 100000 in
set_option maxHeartbeats 1600000 in
theorem print_err (ps : List (Int × Int)) (c : Int) (v : Value) (w : World) (hr : Rd w v 2 ps.length (flatP ps)) (hlen : ps.length ≤ 300) (hp : placesS ps = .error c) :
    Calls Tryd.prog 15 #[v] w fun e w' => e = .returned (.tuple #[.string ⟨#[]⟩, .int .i64 c]) ∧ Below w.heap.size w w' := by
  have HC := hide (check_any ps v w hr hlen)
  have hcs : checkS ps = c := by rw [checkS, hp]
  have hc0 : (c != 0) = true := by rcases places_code hp with h | h | h <;> subst h <;> rfl
  rw [hcs] at HC
  clear hcs hp hr
  go_enter Tryd.func15, Tryd.ntmps15
  go_wp2_with (go_at_call 12; refine HC.out.mono ?_; rintro e w1 ⟨rfl, hb⟩)
  go_ret2
  exact ⟨by simp, hb⟩

set_option maxRecDepth 100000 in
theorem neq_part (a b : Int) (w : World) : (binOp .neq 35 (.agg #[.int .i64 a, .int .i64 b]) (.agg #[.int .i64 a, .int .i64 b])).run Tryd.prog w = .ok (.bool false) w := by
  go_simp

theorem parse_code {l : List UInt8} {c : Int} (h : parseS l = .error c) : c = 13 ∨ c = 11 ∨ c = 1 ∨ c = 10 ∨ c = 12 := by
  have hw : ∀ {l : List (List UInt8)} {c : Int}, parseW l = .error c → c = 13 ∨ c = 11 := by
    intro l
    induction l with
    | nil => intro c h; cases h
    | cons x r ih =>
      intro c h
      rw [parseW] at h
      split at h
      · rename_i hx; cases h; exact read_code hx
      · split at h
        · rename_i hr; cases h; exact ih hr
        · cases h
  unfold parseS at h
  split at h
  · rename_i hx
    cases h
    rcases hw hx with h | h
    · exact .inl h
    · exact .inr (.inl h)
  · split at h
    · cases h
    · rename_i ps _ hne
      cases h
      rcases check_code ps with h | h | h | h
      · exact absurd h hne
      · exact .inr (.inr (.inl h))
      · exact .inr (.inr (.inr (.inl h)))
      · exact .inr (.inr (.inr (.inr h)))

theorem cell_kept {w x : World} {v : Value} (hm : w.cell? ⟨1, 0, none⟩ = some v) (hb : Below w.heap.size w x) : x.cell? ⟨1, 0, none⟩ = some v :=
  (hb.cell (p := ⟨1, 0, none⟩) (block_lt_of_cell hm)).trans hm

set_option maxRecDepth 100000 in
set_option maxHeartbeats 1600000 in
theorem lawreads_any (ps : List (Int × Int)) (s : ByteArray) (mx : Int) (v : Value) (w : World) (hr : Rd w v 2 ps.length (flatP ps)) (hm : w.cell? ⟨1, 0, none⟩ = some (.int .i64 mx)) :
    Calls Tryd.prog 6 #[v, .string s] w fun e w' => e = .returned (.bool true) ∧ Below w.heap.size w w' := by
  obtain ⟨A, cc, rfl, hnc, hcm, -⟩ := id hr.shape
  by_cases hlen : ps.length ≤ 300
  · have hd : decide (ps.length ≤ 300) = true := by simpa using hlen
    by_cases hsl : s.size ≤ 3000
    · have hdw : decide ((3000 : Int) < (s.size : Int)) = false := decide_eq_false (by omega)
      cases hp : placesS ps with
      | error c =>
        have hc0 : (c == 0) = false := by rcases places_code hp with h | h | h <;> subst h <;> rfl
        have hcs : checkS ps = c := by rw [checkS, hp]
        have HE := hide (fun w hr => print_err ps c (.slice A ps.length cc) w hr hlen hp)
        have HC := hide (fun w hr => check_any ps (.slice A ps.length cc) w hr hlen)
        rw [hcs] at HC
        clear hp hcs
        go_enter Tryd.func6, Tryd.ntmps6
        go_wp2_with fail
        refine (few_any _ _ _ _ hr).mono ?_
        rintro e w' ⟨rfl, rfl⟩
        rw [hd]
        go_wp2_with fail
        refine (HE.out _ hr).mono ?_
        rintro e w1 ⟨rfl, hb1⟩
        have hr1 := hr.below hb1
        go_wp2_with fail
        refine (HC.out _ hr1).mono ?_
        rintro e w2 ⟨rfl, hb2⟩
        have hbw := below2 hb1 hb2
        have hm2 := cell_kept hm hbw
        clear hr hr1 hb1 hb2 HE HC hd hdw
        cases hq : parseS s.data.toList with
        | error c =>
          have hc0 : (c != 0) = true := by rcases parse_code hq with h | h | h | h | h <;> subst h <;> rfl
          have Hq := hide hq
          clear hq
          go_wp2_with fail
          refine (parse_any s mx _ (by omega) (hm2)).mono ?_
          rintro e w5 ⟨hb5, he⟩
          rw [Hq.out] at he
          subst he
          go_wp2_with fail
          refine (awake_any _).mono ?_
          rintro e w6 ⟨rfl, hb6⟩
          go_wp2
          go_ret
          exact ⟨by simp, (hbw).trans ((below2 hb5 hb6).mono (hbw).size)⟩
        | ok qs =>
          obtain ⟨hck, hpr⟩ := print_parse hq
          cases hpq : placesS qs with
          | error c =>
            rw [checkS, hpq] at hck
            have hck' : c = 0 := hck
            rcases places_code hpq with h | h | h <;> omega
          | ok r =>
            obtain ⟨pl2, m2⟩ := r
            have Fq := places_facts hpq
            have hes : (⟨(printS qs).toArray⟩ : ByteArray) = s := by rw [hpr]
            have HP := hide (fun w v hr => print_ok qs pl2 m2 v w hr (by omega) hpq)
            rw [hes] at HP
            have hql : 0 < qs.length := by omega
            have hqe : ((qs.length : Int) == 0) = false := beq_eq_false_iff_ne.2 (by omega)
            have Hq := hide hq
            clear hq hpq hck hpr Fq hes
            go_wp2_with fail
            refine (parse_any s mx _ (by omega) (hm2)).mono ?_
            rintro e w5 ⟨hb5, he⟩
            rw [Hq.out] at he
            obtain ⟨v5, he, hr5⟩ := he
            subst he
            go_wp2_with fail
            refine (HP.out _ _ hr5).mono ?_
            rintro e w6 ⟨rfl, hb6⟩
            go_wp2_with fail
            refine (awake_any _).mono ?_
            rintro e w7 ⟨rfl, hb7⟩
            go_wp2
            go_ret
            exact ⟨by simp, (hbw).trans ((below3 hb5 hb6 hb7).mono (hbw).size)⟩
      | ok r =>
        obtain ⟨pl, m⟩ := r
        have F := places_facts hp
        have hpar := parse_print hp
        obtain ⟨T, hT⟩ : ∃ T, T = (⟨(printS ps).toArray⟩ : ByteArray) := ⟨_, rfl⟩
        have HO := hide (fun w hr => print_ok ps pl m (.slice A ps.length cc) w hr hlen hp)
        have hTl : T.data.toList = printS ps := by rw [hT]
        have hTs : T.size ≤ 3000 := by
          have h1 := join_len ps (fun p hq => by have := (parts_right hp).2 p hq; have := lo_bd p.1; have := hi_bd p.1; omega)
          have h2 : (printS ps).length ≤ 8 * ps.length := h1
          have h3 := Lib.size_eq T
          rw [hTl] at h3
          omega
        rw [← hT] at HO
        rw [← hTl] at hpar
        have Hpar := hide hpar
        have hpos : 0 < ps.length := by omega
        have hn256 : ps.length ≤ 256 := by omega
        clear hp F hpar hT hTl
        go_enter Tryd.func6, Tryd.ntmps6
        go_wp2_with fail
        refine (few_any _ _ _ _ hr).mono ?_
        rintro e w' ⟨rfl, rfl⟩
        rw [hd]
        go_wp2_with fail
        refine (HO.out _ hr).mono ?_
        rintro e w1 ⟨rfl, hb1⟩
        have hr1 := hr.below hb1
        go_wp2_with fail
        refine (parse_any T mx _ hTs (cell_kept hm hb1)).mono ?_
        rintro e w2 ⟨hb2, he⟩
        rw [Hpar.out] at he
        obtain ⟨v2, he, hat2⟩ := he
        subst he
        have hr2 := hr1.below hb2
        obtain ⟨x1, o1, c1, hv1, hnc1, hcm1, hx1, hc1⟩ := hr2.open_ hpos
        cases hv1
        obtain ⟨x3, o3, c3, rfl, hnc3, hcm3, hx3, hc3⟩ := hat2.open_ hpos
        have Hc1 := hide hc1
        have Hc3 := hide hc3
        have hbw := below2 hb1 hb2
        have hm2 := cell_kept hm hbw
        have hneq := neq_part
        clear hc1 hc3 hr hr1 hr2 hat2 hb1 hb2 HO hd hdw
        go_wp2_with fail
        go_loopw [9] (fun i wr => ∃ k : Nat, k ≤ ps.length ∧ i = .int .i64 k ∧ Below w2.heap.size w2 wr) (fun i _ => ps.length - (intOf i).toNat)
        case atStart => exact ⟨0, Nat.zero_le _, rfl, Below.refl _ _⟩
        case round =>
          obtain ⟨k, hk, rfl, hbel⟩ := hrel
          by_cases hlt : k < ps.length
          · have hkl : k < ps.length := hlt
            obtain ⟨hy0, hy1⟩ := flatP_at ps k hkl
            obtain ⟨kd, hkd⟩ : ∃ q, q = ps[k].1 := ⟨_, rfl⟩
            obtain ⟨ln, hln⟩ : ∃ q, q = ps[k].2 := ⟨_, rfl⟩
            rw [← hkd] at hy0
            rw [← hln] at hy1
            have q0 := (hbel.cell (p := ⟨x1, o1 + k * 2, none⟩) hx1).trans (Hc1.out _ _ hy0)
            have q1 := (hbel.cell (p := ⟨x1, o1 + k * 2 + 1, none⟩) hx1).trans (Hc1.out _ _ hy1)
            have q2 := (hbel.cell (p := ⟨x3, o3 + k * 2, none⟩) hx3).trans (Hc3.out _ _ hy0)
            have q3 := (hbel.cell (p := ⟨x3, o3 + k * 2 + 1, none⟩) hx3).trans (Hc3.out _ _ hy1)
            clear hy0 hy1 hkd hln hkl
            go_wp2_with fail
            go_quiet (fail)
            go_wp2
            go_roundw
            case rel => exact ⟨k + 1, by omega, by go_num, below_drewN hbel _⟩
            case measure => simp [intOf]; omega
          · have hkn : k = ps.length := by omega
            subst hkn
            clear hneq
            have hbw2 := hbw.trans (hbel.mono hbw.size)
            have hm3 := cell_kept hm hbw2
            cases hq : parseS s.data.toList with
            | error c =>
              have hc0 : (c != 0) = true := by rcases parse_code hq with h | h | h | h | h <;> subst h <;> rfl
              have Hq := hide hq
              clear hq
              go_wp2_with fail
              refine (parse_any s mx _ (by omega) (hm3)).mono ?_
              rintro e w5 ⟨hb5, he⟩
              rw [Hq.out] at he
              subst he
              go_wp2_with fail
              refine (awake_any _).mono ?_
              rintro e w6 ⟨rfl, hb6⟩
              go_wp2
              go_ret
              exact ⟨by simp, (hbw2).trans ((below2 hb5 hb6).mono (hbw2).size)⟩
            | ok qs =>
              obtain ⟨hck, hpr⟩ := print_parse hq
              cases hpq : placesS qs with
              | error c =>
                rw [checkS, hpq] at hck
                have hck' : c = 0 := hck
                rcases places_code hpq with h | h | h <;> omega
              | ok r =>
                obtain ⟨pl2, m2⟩ := r
                have Fq := places_facts hpq
                have hes : (⟨(printS qs).toArray⟩ : ByteArray) = s := by rw [hpr]
                have HP := hide (fun w v hr => print_ok qs pl2 m2 v w hr (by omega) hpq)
                rw [hes] at HP
                have hql : 0 < qs.length := by omega
                have hqe : ((qs.length : Int) == 0) = false := beq_eq_false_iff_ne.2 (by omega)
                have Hq := hide hq
                clear hq hpq hck hpr Fq hes
                go_wp2_with fail
                refine (parse_any s mx _ (by omega) (hm3)).mono ?_
                rintro e w5 ⟨hb5, he⟩
                rw [Hq.out] at he
                obtain ⟨v5, he, hr5⟩ := he
                subst he
                go_wp2_with fail
                refine (HP.out _ _ hr5).mono ?_
                rintro e w6 ⟨rfl, hb6⟩
                go_wp2_with fail
                refine (awake_any _).mono ?_
                rintro e w7 ⟨rfl, hb7⟩
                go_wp2
                go_ret
                exact ⟨by simp, (hbw2).trans ((below3 hb5 hb6 hb7).mono (hbw2).size)⟩
    · have hdw : decide ((3000 : Int) < (s.size : Int)) = true := decide_eq_true (by omega)
      go_enter Tryd.func6, Tryd.ntmps6
      go_wp2_with fail
      refine (few_any _ _ _ _ hr).mono ?_
      rintro e w' ⟨rfl, rfl⟩
      rw [hd]
      go_wp2_with fail
      refine (awake_any _).mono ?_
      rintro e w1 ⟨rfl, hb1⟩
      obtain ⟨hc1, hf1, hz1⟩ := bcell hb1
      go_wp2
      go_ret
      exact ⟨by simp, hb1⟩
  · have hd : decide (ps.length ≤ 300) = false := by simpa using hlen
    go_enter Tryd.func6, Tryd.ntmps6
    go_wp2_with fail
    refine (few_any _ _ _ _ hr).mono ?_
    rintro e w' ⟨rfl, rfl⟩
    rw [hd]
    go_wp2_with fail
    refine (awake_any _).mono ?_
    rintro e w1 ⟨rfl, hb1⟩
    obtain ⟨hc1, hf1, hz1⟩ := bcell hb1
    go_wp2
    go_ret
    exact ⟨by simp, hb1⟩

end Go.Proofs.YtkcpiokgcbkofaaDoor
