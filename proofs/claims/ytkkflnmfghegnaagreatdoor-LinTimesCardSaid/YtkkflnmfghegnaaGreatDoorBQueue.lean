/-
  The walks of package queue's functions. Conditions: a cursor's numbers are bounded, its room is 1 to 15.
-/
import Derived.Test.YtkkflnmfghegnaaGreatDoorRows
import Derived.Test.YtkkflnmfghegnaaGreatDoorBLib
namespace Go.Proofs.YtkkflnmfghegnaaGreatDoor
open Go.RowKit

abbrev cuV (c : Cu) : Value := .agg #[.int .u64 c.next, .int .i64 c.cap, .int .u64 c.got, .int .u64 c.lost]
abbrev cuZ : Value := .agg #[.int .u64 0, .int .i64 0, .int .u64 0, .int .u64 0]

set_option maxRecDepth 100000 in
set_option maxHeartbeats 800000 in
theorem qmay_any (n : Nat) (w : World) (h1 : 1 ≤ n) (h2 : n ≤ 15) : Calls Tryz.prog 111 #[.int .i64 n] w fun e w' => e = .returned (.bool true) ∧ w' = w := by
  go_enter Tryz.func111, Tryz.ntmps111
  go_wp2
  go_ret
  exact ⟨by simp; omega, rfl⟩

set_option maxRecDepth 100000 in
set_option maxHeartbeats 800000 in
theorem right_any (a b c d : Nat) (w : World) (h1 : 1 ≤ b) (h2 : b ≤ 15) (ha : a ≤ 1152921504606846976) : Calls Tryz.prog 112 #[.agg #[.int .u64 a, .int .i64 b, .int .u64 c, .int .u64 d]] w fun e w' => e = .returned (.bool true) ∧ Below w.heap.size w w' := by
  go_enter Tryz.func112, Tryz.ntmps112
  go_wp2_with fail
  refine (qmay_any b _ h1 h2).mono ?_
  rintro e w' ⟨rfl, rfl⟩
  go_wp2
  go_ret
  exact ⟨by simp; omega, below_new _ _⟩

theorem big_no {g : Nat} (h : g ≤ 1152921504606846976) : decide ((9223372036854775808 : Int) ≤ (g : Int)) = false := by simp; omega
theorem u64_same {g : Nat} (h : g ≤ 18446744073709551615) : (g : Int) % 18446744073709551616 = (g : Int) := by omega

set_option maxRecDepth 100000 in
set_option maxHeartbeats 800000 in
theorem qnew_any (g n : Nat) (w : World) (h1 : 1 ≤ n) (h2 : n ≤ 15) (hg : g ≤ 1152921504606846976) : Calls Tryz.prog 93 #[.int .u64 g, .int .i64 n] w fun e w' => e = .returned (.tuple #[cuV ⟨g + 1, n, 0, 0⟩, .int .i64 0]) ∧ Below w.heap.size w w' := by
  have hge := big_no hg
  obtain ⟨r, hr⟩ : ∃ r, r = g + 1 := ⟨_, rfl⟩
  have hw : IntKind.u64.wrap ((g : Int) + 1) = (r : Int) := by rw [IntKind.wrap_u64]; omega
  rw [← hr]
  clear hg hr
  go_enter Tryz.func93, Tryz.ntmps93
  go_wp2_with fail
  refine (qmay_any n _ h1 h2).mono ?_
  rintro e w' ⟨rfl, rfl⟩
  go_wp2
  have hresl : Tryz.f93.results = #[.cell 4 133, .tmp 5] := by kernel_rfl
  refine bodyPost_ret (v := .tuple #[cuV ⟨r, n, 0, 0⟩, .int .i64 0]) ?_ rfl ?_
  · simp only [results, hresl]
    go_simp
  · refine ⟨rfl, ?_⟩
    repeat (first | refine Below.setCell ?_ (by simp <;> omega) _ | refine Below.alloc ?_ (by simp <;> omega) _ | refine below_drewN ?_ _)
    exact Below.refl _ _

set_option maxRecDepth 100000 in
set_option maxHeartbeats 800000 in
theorem see_raw (a b c d g : Nat) (w : World) (h1 : 1 ≤ b) (h2 : b ≤ 15) (ha : a ≤ 1152921504606846976) (hd : d ≤ 1152921504606846976) (hg : g ≤ 1152921504606846976) :
    Calls Tryz.prog 94 #[.agg #[.int .u64 a, .int .i64 b, .int .u64 c, .int .u64 d], .int .u64 g] w fun e w' =>
      e = .returned (.tuple #[cuV (seeS ⟨a, b, c, d⟩ g), .int .i64 0]) ∧ Below w.heap.size w w' := by
  have Ha := hide ha
  have hge := big_no hg
  by_cases hlt : g < a
  · have hlt' : decide ((g : Int) < (a : Int)) = true := by simp; omega
    have HS := hide (show seeS ⟨a, b, c, d⟩ g = ⟨a, b, c, d⟩ by simp [seeS, hlt])
    clear ha hd hg
    go_enter Tryz.func94, Tryz.ntmps94
    go_wp2_with fail
    refine (right_any a b c d _ h1 h2 Ha.out).mono ?_
    rintro e w1 ⟨rfl, hb1⟩
    obtain ⟨hc1, hf1, hz1⟩ := bcell hb1
    obtain ⟨t0, t1, t2, t3, tf, tl⟩ := row4 ((hb1.block w.heap.size (by simp; omega)).trans (heap_two w (.cells #[.int .u64 a, .int .i64 b, .int .u64 c, .int .u64 d] 133) (.cells #[.int .u64 0, .int .i64 0, .int .u64 0, .int .u64 0] 133)).1)
    go_wp2
    have hresl : Tryz.f94.results = #[.cell 4 133, .tmp 5] := by kernel_rfl
    refine bodyPost_ret (v := .tuple #[cuV ⟨a, b, c, d⟩, .int .i64 0]) ?_ rfl ?_
    · simp only [results, hresl]
      go_simp
    · refine ⟨by rw [HS.out], ?_⟩
      repeat (first | refine Below.setCell ?_ (by simp <;> omega) _ | refine Below.alloc ?_ (by simp <;> omega) _ | refine below_drewN ?_ _)
      exact (below_new2 w _ _).trans (hb1.mono (by simp; omega))
  · have hlt' : decide ((g : Int) < (a : Int)) = false := by simp; omega
    obtain ⟨q, hq⟩ : ∃ q, q = g - a := ⟨_, rfl⟩
    obtain ⟨r, hr⟩ : ∃ r, r = q + 1 := ⟨_, rfl⟩
    have hw1 : IntKind.u64.wrap ((g : Int) - (a : Int)) = (q : Int) := by rw [IntKind.wrap_u64]; omega
    have hw2 : IntKind.u64.wrap ((q : Int) + 1) = (r : Int) := by rw [IntKind.wrap_u64]; omega
    by_cases hgt : b < r
    · have hgt' : decide ((b : Int) < (r : Int)) = true := by simp; omega
      obtain ⟨s, hs⟩ : ∃ s, s = r - b := ⟨_, rfl⟩
      obtain ⟨a', ha'⟩ : ∃ a', a' = a + s := ⟨_, rfl⟩
      obtain ⟨d', hd'⟩ : ∃ d', d' = d + s := ⟨_, rfl⟩
      have hw3 : IntKind.u64.wrap ((r : Int) - (b : Int)) = (s : Int) := by rw [IntKind.wrap_u64]; omega
      have hw4 : IntKind.u64.wrap ((a : Int) + (s : Int)) = (a' : Int) := by rw [IntKind.wrap_u64]; omega
      have hw5 : IntKind.u64.wrap ((d : Int) + (s : Int)) = (d' : Int) := by rw [IntKind.wrap_u64]; omega
      have hwb : IntKind.u64.wrap (b : Int) = (b : Int) := by rw [IntKind.wrap_u64]; omega
      have HS := hide (show seeS ⟨a, b, c, d⟩ g = ⟨a', b, c, d'⟩ by
        have e1 : b < g - a + 1 := by omega
        simp [seeS, hlt, e1]
        omega)
      clear ha hd hg hq hr hs ha' hd'
      go_enter Tryz.func94, Tryz.ntmps94
      go_wp2_with fail
      refine (right_any a b c d _ h1 h2 Ha.out).mono ?_
      rintro e w1 ⟨rfl, hb1⟩
      obtain ⟨hc1, hf1, hz1⟩ := bcell hb1
      obtain ⟨t0, t1, t2, t3, tf, tl⟩ := row4 ((hb1.block w.heap.size (by simp; omega)).trans (heap_two w (.cells #[.int .u64 a, .int .i64 b, .int .u64 c, .int .u64 d] 133) (.cells #[.int .u64 0, .int .i64 0, .int .u64 0, .int .u64 0] 133)).1)
      go_wp2_with fail
      go_quiet (fail)
      go_wp2
      have hresl : Tryz.f94.results = #[.cell 4 133, .tmp 5] := by kernel_rfl
      refine bodyPost_ret (v := .tuple #[cuV ⟨a', b, c, d'⟩, .int .i64 0]) ?_ rfl ?_
      · simp only [results, hresl]
        go_simp
      · refine ⟨by rw [HS.out], ?_⟩
        repeat (first | refine Below.setCell ?_ (by simp <;> omega) _ | refine Below.alloc ?_ (by simp <;> omega) _ | refine below_drewN ?_ _)
        exact (below_new2 w _ _).trans (hb1.mono (by simp; omega))
    · have hgt' : decide ((b : Int) < (r : Int)) = false := by simp; omega
      have hwb : IntKind.u64.wrap (b : Int) = (b : Int) := by rw [IntKind.wrap_u64]; omega
      have HS := hide (show seeS ⟨a, b, c, d⟩ g = ⟨a, b, c, d⟩ by
        have e1 : ¬ b < g - a + 1 := by omega
        simp [seeS, hlt, e1])
      clear ha hd hg hq hr
      go_enter Tryz.func94, Tryz.ntmps94
      go_wp2_with fail
      refine (right_any a b c d _ h1 h2 Ha.out).mono ?_
      rintro e w1 ⟨rfl, hb1⟩
      obtain ⟨hc1, hf1, hz1⟩ := bcell hb1
      obtain ⟨t0, t1, t2, t3, tf, tl⟩ := row4 ((hb1.block w.heap.size (by simp; omega)).trans (heap_two w (.cells #[.int .u64 a, .int .i64 b, .int .u64 c, .int .u64 d] 133) (.cells #[.int .u64 0, .int .i64 0, .int .u64 0, .int .u64 0] 133)).1)
      go_wp2_with fail
      go_quiet (fail)
      go_wp2
      have hresl : Tryz.f94.results = #[.cell 4 133, .tmp 5] := by kernel_rfl
      refine bodyPost_ret (v := .tuple #[cuV ⟨a, b, c, d⟩, .int .i64 0]) ?_ rfl ?_
      · simp only [results, hresl]
        go_simp
      · refine ⟨by rw [HS.out], ?_⟩
        repeat (first | refine Below.setCell ?_ (by simp <;> omega) _ | refine Below.alloc ?_ (by simp <;> omega) _ | refine below_drewN ?_ _)
        exact (below_new2 w _ _).trans (hb1.mono (by simp; omega))

theorem see_some (a b c d g : Nat) (h1 : 1 ≤ b) (h2 : b ≤ 15) (ha : a ≤ 1152921504606846976) (hd : d ≤ 1152921504606846976) (hg : g ≤ 1152921504606846976) :
    ∃ a' d' : Nat, seeS ⟨a, b, c, d⟩ g = ⟨a', b, c, d'⟩ ∧ a ≤ a' ∧ a' ≤ 1152921504606846977 ∧ ∀ w, Calls Tryz.prog 94 #[.agg #[.int .u64 a, .int .i64 b, .int .u64 c, .int .u64 d], .int .u64 g] w fun e w' =>
      e = .returned (.tuple #[.agg #[.int .u64 a', .int .i64 b, .int .u64 c, .int .u64 d'], .int .i64 0]) ∧ Below w.heap.size w w' := by
  have hc := seeS_cap ⟨a, b, c, d⟩ g
  have hgo := seeS_got ⟨a, b, c, d⟩ g
  have hle := seeS_le ⟨a, b, c, d⟩ g
  have hn : (seeS ⟨a, b, c, d⟩ g).next ≤ 1152921504606846977 := by unfold seeS; repeat' split
                                                                   all_goals (simp <;> omega)
  have H := fun w => see_raw a b c d g w h1 h2 ha hd hg
  generalize seeS ⟨a, b, c, d⟩ g = S at *
  obtain ⟨a', b', c', d'⟩ := S
  simp only at hc hgo hle hn
  subst hc hgo
  exact ⟨a', d', rfl, hle, hn, H⟩

set_option maxRecDepth 100000 in
set_option maxHeartbeats 800000 in
theorem count_any (a b c d g : Nat) (w : World) (h1 : 1 ≤ b) (h2 : b ≤ 15) (ha : a ≤ 1152921504606846976) (hd : d ≤ 1152921504606846976) (hg : g ≤ 1152921504606846976) :
    Calls Tryz.prog 97 #[.agg #[.int .u64 a, .int .i64 b, .int .u64 c, .int .u64 d], .int .u64 g] w fun e w' =>
      e = .returned (.int .i64 (countS ⟨a, b, c, d⟩ g)) ∧ Below w.heap.size w w' := by
  obtain ⟨a', d', hS, hle, ha', H⟩ := see_some a b c d g h1 h2 ha hd hg
  have H := hide H
  have hcount : countS ⟨a, b, c, d⟩ g = g + 1 - a' := by rw [countS, hS]
  rw [hcount]
  by_cases hlt : g < a'
  · obtain ⟨r, hr⟩ : ∃ r, r = g + 1 - a' := ⟨_, rfl⟩
    have hr0 : r = 0 := by omega
    rw [← hr]
    subst hr0
    clear ha hd hg hcount hle ha' hS hr
    go_enter Tryz.func97, Tryz.ntmps97
    go_wp2_with fail
    refine (H.out _).mono ?_
    rintro e w1 ⟨rfl, hb1⟩
    obtain ⟨hc1, hf1, hz1⟩ := bcell hb1
    go_wp2
    go_ret
    exact ⟨by simp, ((below_new w _).trans (hb1.mono (by simp))).alloc (by have := hb1.size; simp at this; omega) _⟩
  · obtain ⟨q, hq⟩ : ∃ q, q = g - a' := ⟨_, rfl⟩
    obtain ⟨r, hr⟩ : ∃ r, r = g + 1 - a' := ⟨_, rfl⟩
    have hw1 : IntKind.u64.wrap ((g : Int) - (a' : Int)) = (q : Int) := by rw [IntKind.wrap_u64]; omega
    have hw2 : IntKind.u64.wrap ((q : Int) + 1) = (r : Int) := by rw [IntKind.wrap_u64]; omega
    have hw3 : IntKind.i64.wrap (r : Int) = (r : Int) := by rw [IntKind.wrap_i64]; omega
    rw [← hr]
    clear ha hd hg hcount hle ha' hS hr hq
    go_enter Tryz.func97, Tryz.ntmps97
    go_wp2_with fail
    refine (H.out _).mono ?_
    rintro e w1 ⟨rfl, hb1⟩
    obtain ⟨hc1, hf1, hz1⟩ := bcell hb1
    go_wp2
    go_ret
    exact ⟨by simp, ((below_new w _).trans (hb1.mono (by simp))).alloc (by have := hb1.size; simp at this; omega) _⟩

set_option maxRecDepth 100000 in
set_option maxHeartbeats 800000 in
theorem take_any (a b c d g : Nat) (w : World) (h1 : 1 ≤ b) (h2 : b ≤ 15) (ha : a ≤ 1152921504606846976) (hd : d ≤ 1152921504606846976) (hc : c ≤ 1152921504606846976) (hg : g ≤ 1152921504606846976)
    (hq : (seeS ⟨a, b, c, d⟩ g).next ≤ g) :
    Calls Tryz.prog 96 #[.agg #[.int .u64 a, .int .i64 b, .int .u64 c, .int .u64 d], .int .u64 g] w fun e w' =>
      e = .returned (.tuple #[.int .u64 (seeS ⟨a, b, c, d⟩ g).next, cuV (takeS ⟨a, b, c, d⟩ g), .int .i64 0]) ∧ Below w.heap.size w w' := by
  obtain ⟨a', d', hS, hle, ha', H⟩ := see_some a b c d g h1 h2 ha hd hg
  have H := hide H
  have ht : takeS ⟨a, b, c, d⟩ g = ⟨a' + 1, b, c + 1, d'⟩ := by rw [takeS, hS]
  rw [hS] at hq
  rw [ht, hS]
  have hlt : ¬ g < a' := by simpa using hq
  obtain ⟨a2, h2a⟩ : ∃ q, q = a' + 1 := ⟨_, rfl⟩
  obtain ⟨c2, h2c⟩ : ∃ q, q = c + 1 := ⟨_, rfl⟩
  have hw1 : IntKind.u64.wrap ((a' : Int) + 1) = (a2 : Int) := by rw [IntKind.wrap_u64]; omega
  have hw2 : IntKind.u64.wrap ((c : Int) + 1) = (c2 : Int) := by rw [IntKind.wrap_u64]; omega
  rw [← h2a, ← h2c]
  clear ha hd hg hc ht hle ha' hS hq h2a h2c
  go_enter Tryz.func96, Tryz.ntmps96
  go_wp2_with fail
  refine (H.out _).mono ?_
  rintro e w1 ⟨rfl, hb1⟩
  obtain ⟨hc1, hf1, hz1⟩ := bcell hb1
  have hs1 : w.heap.size + 1 + 1 ≤ w1.heap.size := by have := hb1.size; simp at this; omega
  obtain ⟨t0, t1, t2, t3, tf, tl⟩ := row4 ((hb1.block (w.heap.size + 1) (by simp)).trans (heap_two w (.cells #[.int .u64 a, .int .i64 b, .int .u64 c, .int .u64 d] 133) (.cells #[.int .u64 0, .int .i64 0, .int .u64 0, .int .u64 0] 133)).2)
  go_wp2_with fail
  go_region
  go_wp2
  have hresl : Tryz.f96.results = #[.tmp 4, .cell 5 133, .tmp 6] := by kernel_rfl
  refine bodyPost_ret (v := .tuple #[.int .u64 a', cuV ⟨a2, b, c2, d'⟩, .int .i64 0]) ?_ rfl ?_
  · simp only [results, hresl]
    go_simp
  · refine ⟨rfl, ?_⟩
    repeat (first | refine Below.setCell ?_ (by simp <;> omega) _ | refine Below.alloc ?_ (by simp <;> omega) _ | refine below_drewN ?_ _)
    exact (below_new2 w _ _).trans (hb1.mono (by simp; omega))

end Go.Proofs.YtkkflnmfghegnaaGreatDoor
