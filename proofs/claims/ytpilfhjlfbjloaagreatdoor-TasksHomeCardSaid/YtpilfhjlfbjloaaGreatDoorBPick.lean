/-
  The walks of package queue's functions. Conditions: a cursor's numbers are bounded, its room is 1 to 15. The walk of queue.Pick. Conditions: cursors whose numbers are bounded, a generation for each.
-/
import Derived.Test.YtpilfhjlfbjloaaGreatDoorRows
import Derived.Test.YtpilfhjlfbjloaaGreatDoorBLib
import Derived.ScopeJumps
namespace Go.Proofs.YtpilfhjlfbjloaaGreatDoor
open Go.RowKit

abbrev cuV (c : Cu) : Value := .agg #[.int .u64 c.next, .int .i64 c.cap, .int .u64 c.got, .int .u64 c.lost]
abbrev cuZ : Value := .agg #[.int .u64 0, .int .i64 0, .int .u64 0, .int .u64 0]

set_option maxRecDepth 100000 in
set_option maxHeartbeats 800000 in
theorem qmay_any (n : Nat) (w : World) (h1 : 1 ≤ n) (h2 : n ≤ 15) : Calls Tryz.prog 90 #[.int .i64 n] w fun e w' => e = .returned (.bool true) ∧ w' = w := by
  go_enter Tryz.func90, Tryz.ntmps90
  go_wp2
  go_ret
  exact ⟨by simp; omega, rfl⟩

set_option maxRecDepth 100000 in
set_option maxHeartbeats 800000 in
theorem right_any (a b c d : Nat) (w : World) (h1 : 1 ≤ b) (h2 : b ≤ 15) (ha : a ≤ 1152921504606846976) : Calls Tryz.prog 91 #[.agg #[.int .u64 a, .int .i64 b, .int .u64 c, .int .u64 d]] w fun e w' => e = .returned (.bool true) ∧ Below w.heap.size w w' := by
  go_enter Tryz.func91, Tryz.ntmps91
  go_wp2_with fail
  refine (qmay_any b _ h1 h2).mono ?_
  rintro e w' ⟨rfl, rfl⟩
  go_wp2
  go_ret
  exact ⟨by simp; omega, below_new _ _⟩

theorem big_no {g : Nat} (h : g ≤ 1152921504606846976) : decide ((9223372036854775808 : Int) ≤ (g : Int)) = false := by simp; omega
theorem u64_same {g : Nat} (h : g ≤ 18446744073709551615) : (g : Int) % 18446744073709551616 = (g : Int) := by omega

set_option maxRecDepth 100000 in
set_option maxHeartbeats 800000 in
theorem qnew_any (g n : Nat) (w : World) (h1 : 1 ≤ n) (h2 : n ≤ 15) (hg : g ≤ 1152921504606846976) : Calls Tryz.prog 65 #[.int .u64 g, .int .i64 n] w fun e w' => e = .returned (.tuple #[cuV ⟨g + 1, n, 0, 0⟩, .int .i64 0]) ∧ Below w.heap.size w w' := by
  have hge := big_no hg
  obtain ⟨r, hr⟩ : ∃ r, r = g + 1 := ⟨_, rfl⟩
  have hw : IntKind.u64.wrap ((g : Int) + 1) = (r : Int) := by rw [IntKind.wrap_u64]; omega
  rw [← hr]
  clear hg hr
  go_enter Tryz.func65, Tryz.ntmps65
  go_wp2_with fail
  refine (qmay_any n _ h1 h2).mono ?_
  rintro e w' ⟨rfl, rfl⟩
  go_wp2
  have hresl : Tryz.f65.results = #[.cell 4 133, .tmp 5] := by kernel_rfl
  refine bodyPost_ret (v := .tuple #[cuV ⟨r, n, 0, 0⟩, .int .i64 0]) ?_ rfl ?_
  · simp only [results, hresl]
    go_simp
  · refine ⟨rfl, ?_⟩
    repeat (first | refine Below.setCell ?_ (by simp <;> omega) _ | refine Below.alloc ?_ (by simp <;> omega) _ | refine below_drewN ?_ _)
    exact Below.refl _ _

set_option maxRecDepth 100000 in
set_option maxHeartbeats 800000 in
theorem see_raw (a b c d g : Nat) (w : World) (h1 : 1 ≤ b) (h2 : b ≤ 15) (ha : a ≤ 1152921504606846976) (hd : d ≤ 1152921504606846976) (hg : g ≤ 1152921504606846976) :
    Calls Tryz.prog 66 #[.agg #[.int .u64 a, .int .i64 b, .int .u64 c, .int .u64 d], .int .u64 g] w fun e w' =>
      e = .returned (.tuple #[cuV (seeS ⟨a, b, c, d⟩ g), .int .i64 0]) ∧ Below w.heap.size w w' := by
  have Ha := hide ha
  have hge := big_no hg
  by_cases hlt : g < a
  · have hlt' : decide ((g : Int) < (a : Int)) = true := by simp; omega
    have HS := hide (show seeS ⟨a, b, c, d⟩ g = ⟨a, b, c, d⟩ by simp [seeS, hlt])
    clear ha hd hg
    go_enter Tryz.func66, Tryz.ntmps66
    go_wp2_with fail
    refine (right_any a b c d _ h1 h2 Ha.out).mono ?_
    rintro e w1 ⟨rfl, hb1⟩
    obtain ⟨hc1, hf1, hz1⟩ := bcell hb1
    obtain ⟨t0, t1, t2, t3, tf, tl⟩ := row4 ((hb1.block w.heap.size (by simp; omega)).trans (heap_two w (.cells #[.int .u64 a, .int .i64 b, .int .u64 c, .int .u64 d] 133) (.cells #[.int .u64 0, .int .i64 0, .int .u64 0, .int .u64 0] 133)).1)
    go_wp2
    have hresl : Tryz.f66.results = #[.cell 4 133, .tmp 5] := by kernel_rfl
    refine bodyPost_ret (v := .tuple #[cuV ⟨a, b, c, d⟩, .int .i64 0]) ?_ rfl ?_
    · simp only [results, hresl]
      go_simp
    · refine ⟨by rw [HS.out], ?_⟩
      repeat (first | refine Below.setCell ?_ (by simp <;> omega) _ | refine Below.alloc ?_ (by simp <;> omega) _ | refine below_drewN ?_ _)
      exact (below_new2 w _ _).trans (hb1.mono (by simp; omega))
  · have hlt' : decide ((g : Int) < (a : Int)) = false := by simp; omega
    obtain ⟨q, hq⟩ : ∃ q, q = g - a := ⟨_, rfl⟩
    obtain ⟨r, hr⟩ : ∃ r, r = q + 1 := ⟨_, rfl⟩
    have hw1 : IntKind.u64.wrap ((g : Int) - (a : Int)) = (q : Int) := by rw [IntKind.wrap_u64]; omega
    have hw2 : IntKind.u64.wrap ((q : Int) + 1) = (r : Int) := by rw [IntKind.wrap_u64]; omega
    by_cases hgt : b < r
    · have hgt' : decide ((b : Int) < (r : Int)) = true := by simp; omega
      obtain ⟨s, hs⟩ : ∃ s, s = r - b := ⟨_, rfl⟩
      obtain ⟨a', ha'⟩ : ∃ a', a' = a + s := ⟨_, rfl⟩
      obtain ⟨d', hd'⟩ : ∃ d', d' = d + s := ⟨_, rfl⟩
      have hw3 : IntKind.u64.wrap ((r : Int) - (b : Int)) = (s : Int) := by rw [IntKind.wrap_u64]; omega
      have hw4 : IntKind.u64.wrap ((a : Int) + (s : Int)) = (a' : Int) := by rw [IntKind.wrap_u64]; omega
      have hw5 : IntKind.u64.wrap ((d : Int) + (s : Int)) = (d' : Int) := by rw [IntKind.wrap_u64]; omega
      have hwb : IntKind.u64.wrap (b : Int) = (b : Int) := by rw [IntKind.wrap_u64]; omega
      have HS := hide (show seeS ⟨a, b, c, d⟩ g = ⟨a', b, c, d'⟩ by
        have e1 : b < g - a + 1 := by omega
        simp [seeS, hlt, e1]
        omega)
      clear ha hd hg hq hr hs ha' hd'
      go_enter Tryz.func66, Tryz.ntmps66
      go_wp2_with fail
      refine (right_any a b c d _ h1 h2 Ha.out).mono ?_
      rintro e w1 ⟨rfl, hb1⟩
      obtain ⟨hc1, hf1, hz1⟩ := bcell hb1
      obtain ⟨t0, t1, t2, t3, tf, tl⟩ := row4 ((hb1.block w.heap.size (by simp; omega)).trans (heap_two w (.cells #[.int .u64 a, .int .i64 b, .int .u64 c, .int .u64 d] 133) (.cells #[.int .u64 0, .int .i64 0, .int .u64 0, .int .u64 0] 133)).1)
      go_wp2_with fail
      go_quiet (fail)
      go_wp2
      have hresl : Tryz.f66.results = #[.cell 4 133, .tmp 5] := by kernel_rfl
      refine bodyPost_ret (v := .tuple #[cuV ⟨a', b, c, d'⟩, .int .i64 0]) ?_ rfl ?_
      · simp only [results, hresl]
        go_simp
      · refine ⟨by rw [HS.out], ?_⟩
        repeat (first | refine Below.setCell ?_ (by simp <;> omega) _ | refine Below.alloc ?_ (by simp <;> omega) _ | refine below_drewN ?_ _)
        exact (below_new2 w _ _).trans (hb1.mono (by simp; omega))
    · have hgt' : decide ((b : Int) < (r : Int)) = false := by simp; omega
      have hwb : IntKind.u64.wrap (b : Int) = (b : Int) := by rw [IntKind.wrap_u64]; omega
      have HS := hide (show seeS ⟨a, b, c, d⟩ g = ⟨a, b, c, d⟩ by
        have e1 : ¬ b < g - a + 1 := by omega
        simp [seeS, hlt, e1])
      clear ha hd hg hq hr
      go_enter Tryz.func66, Tryz.ntmps66
      go_wp2_with fail
      refine (right_any a b c d _ h1 h2 Ha.out).mono ?_
      rintro e w1 ⟨rfl, hb1⟩
      obtain ⟨hc1, hf1, hz1⟩ := bcell hb1
      obtain ⟨t0, t1, t2, t3, tf, tl⟩ := row4 ((hb1.block w.heap.size (by simp; omega)).trans (heap_two w (.cells #[.int .u64 a, .int .i64 b, .int .u64 c, .int .u64 d] 133) (.cells #[.int .u64 0, .int .i64 0, .int .u64 0, .int .u64 0] 133)).1)
      go_wp2_with fail
      go_quiet (fail)
      go_wp2
      have hresl : Tryz.f66.results = #[.cell 4 133, .tmp 5] := by kernel_rfl
      refine bodyPost_ret (v := .tuple #[cuV ⟨a, b, c, d⟩, .int .i64 0]) ?_ rfl ?_
      · simp only [results, hresl]
        go_simp
      · refine ⟨by rw [HS.out], ?_⟩
        repeat (first | refine Below.setCell ?_ (by simp <;> omega) _ | refine Below.alloc ?_ (by simp <;> omega) _ | refine below_drewN ?_ _)
        exact (below_new2 w _ _).trans (hb1.mono (by simp; omega))

theorem see_some (a b c d g : Nat) (h1 : 1 ≤ b) (h2 : b ≤ 15) (ha : a ≤ 1152921504606846976) (hd : d ≤ 1152921504606846976) (hg : g ≤ 1152921504606846976) :
    ∃ a' d' : Nat, seeS ⟨a, b, c, d⟩ g = ⟨a', b, c, d'⟩ ∧ a ≤ a' ∧ a' ≤ 1152921504606846977 ∧ ∀ w, Calls Tryz.prog 66 #[.agg #[.int .u64 a, .int .i64 b, .int .u64 c, .int .u64 d], .int .u64 g] w fun e w' =>
      e = .returned (.tuple #[.agg #[.int .u64 a', .int .i64 b, .int .u64 c, .int .u64 d'], .int .i64 0]) ∧ Below w.heap.size w w' := by
  have hc := seeS_cap ⟨a, b, c, d⟩ g
  have hgo := seeS_got ⟨a, b, c, d⟩ g
  have hle := seeS_le ⟨a, b, c, d⟩ g
  have hn : (seeS ⟨a, b, c, d⟩ g).next ≤ 1152921504606846977 := by unfold seeS; repeat' split
                                                                   all_goals (simp <;> omega)
  have H := fun w => see_raw a b c d g w h1 h2 ha hd hg
  generalize seeS ⟨a, b, c, d⟩ g = S at *
  obtain ⟨a', b', c', d'⟩ := S
  simp only at hc hgo hle hn
  subst hc hgo
  exact ⟨a', d', rfl, hle, hn, H⟩

set_option maxRecDepth 100000 in
set_option maxHeartbeats 800000 in
theorem count_any (a b c d g : Nat) (w : World) (h1 : 1 ≤ b) (h2 : b ≤ 15) (ha : a ≤ 1152921504606846976) (hd : d ≤ 1152921504606846976) (hg : g ≤ 1152921504606846976) :
    Calls Tryz.prog 69 #[.agg #[.int .u64 a, .int .i64 b, .int .u64 c, .int .u64 d], .int .u64 g] w fun e w' =>
      e = .returned (.int .i64 (countS ⟨a, b, c, d⟩ g)) ∧ Below w.heap.size w w' := by
  obtain ⟨a', d', hS, hle, ha', H⟩ := see_some a b c d g h1 h2 ha hd hg
  have H := hide H
  have hcount : countS ⟨a, b, c, d⟩ g = g + 1 - a' := by rw [countS, hS]
  rw [hcount]
  by_cases hlt : g < a'
  · obtain ⟨r, hr⟩ : ∃ r, r = g + 1 - a' := ⟨_, rfl⟩
    have hr0 : r = 0 := by omega
    rw [← hr]
    subst hr0
    clear ha hd hg hcount hle ha' hS hr
    go_enter Tryz.func69, Tryz.ntmps69
    go_wp2_with fail
    refine (H.out _).mono ?_
    rintro e w1 ⟨rfl, hb1⟩
    obtain ⟨hc1, hf1, hz1⟩ := bcell hb1
    go_wp2
    go_ret
    exact ⟨by simp, ((below_new w _).trans (hb1.mono (by simp))).alloc (by have := hb1.size; simp at this; omega) _⟩
  · obtain ⟨q, hq⟩ : ∃ q, q = g - a' := ⟨_, rfl⟩
    obtain ⟨r, hr⟩ : ∃ r, r = g + 1 - a' := ⟨_, rfl⟩
    have hw1 : IntKind.u64.wrap ((g : Int) - (a' : Int)) = (q : Int) := by rw [IntKind.wrap_u64]; omega
    have hw2 : IntKind.u64.wrap ((q : Int) + 1) = (r : Int) := by rw [IntKind.wrap_u64]; omega
    have hw3 : IntKind.i64.wrap (r : Int) = (r : Int) := by rw [IntKind.wrap_i64]; omega
    rw [← hr]
    clear ha hd hg hcount hle ha' hS hr hq
    go_enter Tryz.func69, Tryz.ntmps69
    go_wp2_with fail
    refine (H.out _).mono ?_
    rintro e w1 ⟨rfl, hb1⟩
    obtain ⟨hc1, hf1, hz1⟩ := bcell hb1
    go_wp2
    go_ret
    exact ⟨by simp, ((below_new w _).trans (hb1.mono (by simp))).alloc (by have := hb1.size; simp at this; omega) _⟩

set_option maxRecDepth 100000 in
set_option maxHeartbeats 800000 in
theorem take_any (a b c d g : Nat) (w : World) (h1 : 1 ≤ b) (h2 : b ≤ 15) (ha : a ≤ 1152921504606846976) (hd : d ≤ 1152921504606846976) (hc : c ≤ 1152921504606846976) (hg : g ≤ 1152921504606846976)
    (hq : (seeS ⟨a, b, c, d⟩ g).next ≤ g) :
    Calls Tryz.prog 68 #[.agg #[.int .u64 a, .int .i64 b, .int .u64 c, .int .u64 d], .int .u64 g] w fun e w' =>
      e = .returned (.tuple #[.int .u64 (seeS ⟨a, b, c, d⟩ g).next, cuV (takeS ⟨a, b, c, d⟩ g), .int .i64 0]) ∧ Below w.heap.size w w' := by
  obtain ⟨a', d', hS, hle, ha', H⟩ := see_some a b c d g h1 h2 ha hd hg
  have H := hide H
  have ht : takeS ⟨a, b, c, d⟩ g = ⟨a' + 1, b, c + 1, d'⟩ := by rw [takeS, hS]
  rw [hS] at hq
  rw [ht, hS]
  have hlt : ¬ g < a' := by simpa using hq
  obtain ⟨a2, h2a⟩ : ∃ q, q = a' + 1 := ⟨_, rfl⟩
  obtain ⟨c2, h2c⟩ : ∃ q, q = c + 1 := ⟨_, rfl⟩
  have hw1 : IntKind.u64.wrap ((a' : Int) + 1) = (a2 : Int) := by rw [IntKind.wrap_u64]; omega
  have hw2 : IntKind.u64.wrap ((c : Int) + 1) = (c2 : Int) := by rw [IntKind.wrap_u64]; omega
  rw [← h2a, ← h2c]
  clear ha hd hg hc ht hle ha' hS hq h2a h2c
  go_enter Tryz.func68, Tryz.ntmps68
  go_wp2_with fail
  refine (H.out _).mono ?_
  rintro e w1 ⟨rfl, hb1⟩
  obtain ⟨hc1, hf1, hz1⟩ := bcell hb1
  have hs1 : w.heap.size + 1 + 1 ≤ w1.heap.size := by have := hb1.size; simp at this; omega
  obtain ⟨t0, t1, t2, t3, tf, tl⟩ := row4 ((hb1.block (w.heap.size + 1) (by simp)).trans (heap_two w (.cells #[.int .u64 a, .int .i64 b, .int .u64 c, .int .u64 d] 133) (.cells #[.int .u64 0, .int .i64 0, .int .u64 0, .int .u64 0] 133)).2)
  go_wp2_with fail
  go_region
  go_wp2
  have hresl : Tryz.f68.results = #[.tmp 4, .cell 5 133, .tmp 6] := by kernel_rfl
  refine bodyPost_ret (v := .tuple #[.int .u64 a', cuV ⟨a2, b, c2, d'⟩, .int .i64 0]) ?_ rfl ?_
  · simp only [results, hresl]
    go_simp
  · refine ⟨rfl, ?_⟩
    repeat (first | refine Below.setCell ?_ (by simp <;> omega) _ | refine Below.alloc ?_ (by simp <;> omega) _ | refine below_drewN ?_ _)
    exact (below_new2 w _ _).trans (hb1.mono (by simp; omega))

end Go.Proofs.YtpilfhjlfbjloaaGreatDoor

namespace Go.Proofs.YtpilfhjlfbjloaaGreatDoor
open Go.RowKit

/-- A subscription's cells. -/
abbrev sbL (s : Sb) : List Value := [.int .i64 s.topic, .int .i64 s.rank, .int .u64 s.cu.next, .int .i64 s.cu.cap, .int .u64 s.cu.got, .int .u64 s.cu.lost]
def flatSb (l : List Sb) : List Value := l.flatMap sbL

theorem flatSb_len (l : List Sb) : (flatSb l).length = l.length * 6 := by
  induction l with
  | nil => rfl
  | cons p ps ih => simp [flatSb] at ih ⊢; omega

theorem flatSb_at : ∀ (l : List Sb) (k : Nat) (h : k < l.length), (flatSb l)[k * 6]? = some (.int .i64 l[k].topic) ∧ (flatSb l)[k * 6 + 1]? = some (.int .i64 l[k].rank) ∧ (flatSb l)[k * 6 + 2]? = some (.int .u64 l[k].cu.next) ∧
    (flatSb l)[k * 6 + 3]? = some (.int .i64 l[k].cu.cap) ∧ (flatSb l)[k * 6 + 4]? = some (.int .u64 l[k].cu.got) ∧ (flatSb l)[k * 6 + 5]? = some (.int .u64 l[k].cu.lost)
  | [], k, h => by simp at h
  | p :: ps, 0, h => by simp [flatSb]
  | p :: ps, k + 1, h => by
    have := flatSb_at ps k (by simpa using h)
    have e : flatSb (p :: ps) = sbL p ++ flatSb ps := by simp [flatSb]
    rw [e]
    have e2 : ∀ j, (sbL p ++ flatSb ps)[(k + 1) * 6 + j]? = (flatSb ps)[k * 6 + j]? := fun j => by
      rw [List.getElem?_append_right (by simp; omega)]
      congr 1
      simp
      omega
    have e0 := e2 0
    simp only [Nat.add_zero] at e0
    rw [e0, e2 1, e2 2, e2 3, e2 4, e2 5]
    simpa using this

def Sb.fit (s : Sb) : Prop := s.topic ≤ 1152921504606846976 ∧ s.rank ≤ 1152921504606846976 ∧ 1 ≤ s.cu.cap ∧ s.cu.cap ≤ 15 ∧ s.cu.next ≤ 1152921504606846976 ∧ s.cu.got ≤ 1152921504606846976 ∧ s.cu.lost ≤ 1152921504606846976

def bestV : Option Nat → Int
  | none => -1
  | some j => j

def natL (l : List Nat) : List Value := l.map fun g : Nat => .int .u64 (g : Int)
theorem natL_len (l : List Nat) : (natL l).length = l.length := by simp [natL]
theorem natL_at (l : List Nat) (k : Nat) (g : Nat) (h : l[k]? = some g) : (natL l)[k]? = some (.int .u64 g) := by simp [natL, h]

/-- A row's element, read. -/
theorem Rd.six {w : World} {v : Value} {n : Nat} {l : List Sb} (h : Rd w v 6 n (flatSb l)) (hn : n = l.length) {k : Nat} (hk : k < n) :
    ∃ b o c s, l[k]? = some s ∧ v = .slice (some ⟨b, o, none⟩) n c ∧ n ≤ c ∧ c ≤ maxLen ∧ b < w.heap.size ∧ w.cell? ⟨b, o + k * 6, none⟩ = some (.int .i64 s.topic) ∧ w.cell? ⟨b, o + k * 6 + 1, none⟩ = some (.int .i64 s.rank) ∧
      w.cell? ⟨b, o + k * 6 + 2, none⟩ = some (.int .u64 s.cu.next) ∧ w.cell? ⟨b, o + k * 6 + 3, none⟩ = some (.int .i64 s.cu.cap) ∧ w.cell? ⟨b, o + k * 6 + 4, none⟩ = some (.int .u64 s.cu.got) ∧ w.cell? ⟨b, o + k * 6 + 5, none⟩ = some (.int .u64 s.cu.lost) := by
  obtain ⟨b, o, c, hv, h1, h2, hb, hc⟩ := h.open_ (by omega)
  obtain ⟨f0, f1, f2, f3, f4, f5⟩ := flatSb_at l k (by omega)
  exact ⟨b, o, c, l[k]'(by omega), by simp, hv, h1, h2, hb, hc _ _ f0, hc _ _ f1, hc _ _ f2, hc _ _ f3, hc _ _ f4, hc _ _ f5⟩

theorem pick_skip {l : List Sb} {gens : List Nat} {j g : Nat} {s : Sb} (hs : l[j]? = some s) (hg : gens[j]? = some g) (h : g < (seeS s.cu g).next) : pickS l gens (j + 1) = pickS l gens j := by
  rw [pickS]; simp [hs, hg, h]
theorem pick_first {l : List Sb} {gens : List Nat} {j g : Nat} {s : Sb} (hs : l[j]? = some s) (hg : gens[j]? = some g) (h : ¬ g < (seeS s.cu g).next) (hp : pickS l gens j = none) : pickS l gens (j + 1) = some j := by
  rw [pickS]; simp [hs, hg, h, hp]
theorem pick_old {l : List Sb} {gens : List Nat} {i j g : Nat} {s b : Sb} (hs : l[j]? = some s) (hg : gens[j]? = some g) (h : ¬ g < (seeS s.cu g).next) (hp : pickS l gens j = some i) (hb : l[i]? = some b) (hr : s.rank ≤ b.rank) : pickS l gens (j + 1) = some i := by
  rw [pickS]; simp [hs, hg, h, hp, hb, hr]
theorem pick_new {l : List Sb} {gens : List Nat} {i j g : Nat} {s b : Sb} (hs : l[j]? = some s) (hg : gens[j]? = some g) (h : ¬ g < (seeS s.cu g).next) (hp : pickS l gens j = some i) (hb : l[i]? = some b) (hr : ¬ s.rank ≤ b.rank) : pickS l gens (j + 1) = some j := by
  rw [pickS]; simp [hs, hg, h, hp, hb, hr]

set_option maxRecDepth 100000 in
set_option maxHeartbeats 1600000 in
theorem pick_any (l : List Sb) (gens : List Nat) (v v' : Value) (n : Nat) (w : World) (hn : n = l.length) (hnb : n ≤ 100) (hg : gens.length = n) (hr : Rd w v 6 n (flatSb l)) (hr' : Rd w v' 1 n (natL gens))
    (hl : ∀ s ∈ l, s.fit) (hgs : ∀ g ∈ gens, g ≤ 1152921504606846976) :
    Calls Tryz.prog 67 #[v, v'] w fun e w' => e = .returned (.tuple #[.int .i64 (bestV (pickS l gens n)), .int .i64 0]) ∧ Below w.heap.size w w' := by
  have Hr := hide hr
  have Hr' := hide hr'
  have Hl := hide hl
  have Hgs := hide hgs
  have Hn := hide hn
  have Hg := hide hg
  obtain ⟨A, cA, rfl, hA1, hA2, -⟩ := hr.shape
  obtain ⟨A', cA', rfl, hA1', hA2', -⟩ := hr'.shape
  clear hr hr' hl hgs hn hg
  go_enter Tryz.func67, Tryz.ntmps67
  go_wp2_with fail
  go_step3
  go_wp2_with fail
  go_loopw [20] (fun i wr => ∃ k : Nat, k ≤ n ∧ i = .int .i64 k ∧ Below w.heap.size w wr) (fun i _ => n - (intOf i).toNat)
  case atStart => exact ⟨0, Nat.zero_le _, rfl, Below.refl _ _⟩
  case round =>
    obtain ⟨k, hk, rfl, hbel⟩ := hrel
    by_cases hlt : k < n
    · obtain ⟨b, o, c, s, hs, hv, h1, h2, hb, c0, c1, c2, c3, c4, c5⟩ := (Hr.out.below hbel).six Hn.out hlt
      cases hv
      obtain ⟨-, -, f1, f2, f3, -, -⟩ := Hl.out s (List.mem_of_getElem? hs)
      have F3 := hide f3
      clear f3
      go_wp2_with fail
      refine (right_any _ _ _ _ _ f1 f2 F3.out).mono ?_
      rintro e w1 ⟨rfl, hb1⟩
      go_wp2
      go_roundw
      case rel => exact ⟨k + 1, by omega, by go_num, below2 (below2 hbel (below_new _ _)) (hb1.mono (by simp))⟩
      case measure => simp [intOf]; omega
    · have hkn : k = n := by omega
      subst hkn
      clear hlt
      go_wp2_with fail
      go_step3
      go_wp2_with fail
      go_loopw [8, 31] (fun i2 i3 wr => ∃ j : Nat, j ≤ k ∧ i3 = .int .i64 j ∧ i2 = .int .i64 (bestV (pickS l gens j)) ∧ Below w.heap.size w wr) (fun _ i3 _ => k - (intOf i3).toNat)
      case atStart => exact ⟨0, Nat.zero_le _, rfl, rfl, hbel⟩
      case round =>
        obtain ⟨j, hj, rfl, rfl, hbel⟩ := hrel
        by_cases hlt : j < k
        · obtain ⟨b, o, c, s, hs, hv, h1, h2, hb, c0, c1, c2, c3, c4, c5⟩ := (Hr.out.below hbel).six Hn.out hlt
          cases hv
          obtain ⟨g, hg⟩ : ∃ g, gens[j]? = some g := ⟨gens[j]'(by have := Hg.out; omega), by simp⟩
          obtain ⟨b', o', c', hv', h1', h2', hb', hc'⟩ := (Hr'.out.below hbel).open_ (by omega)
          cases hv'
          have d0 := hc' j _ (natL_at gens j g hg)
          obtain ⟨-, -, f1, f2, f3, f4, f5⟩ := Hl.out s (List.mem_of_getElem? hs)
          obtain ⟨a', d', hS, hle, ha', H⟩ := see_some s.cu.next s.cu.cap s.cu.got s.cu.lost g f1 f2 f3 f5 (Hgs.out g (List.mem_of_getElem? hg))
          have H := hide H
          have HS := hide (show (seeS s.cu g).next = a' by rw [show s.cu = ⟨s.cu.next, s.cu.cap, s.cu.got, s.cu.lost⟩ from rfl, hS])
          have Hs := hide hs
          have Hgj := hide hg
          obtain ⟨tp, htp⟩ : ∃ x, x = s.topic := ⟨_, rfl⟩
          obtain ⟨rk, hrk⟩ : ∃ x, x = s.rank := ⟨_, rfl⟩
          obtain ⟨nx, hnx⟩ : ∃ x, x = s.cu.next := ⟨_, rfl⟩
          obtain ⟨cp, hcp⟩ : ∃ x, x = s.cu.cap := ⟨_, rfl⟩
          obtain ⟨gt, hgt⟩ : ∃ x, x = s.cu.got := ⟨_, rfl⟩
          obtain ⟨ls, hls⟩ : ∃ x, x = s.cu.lost := ⟨_, rfl⟩
          rw [← htp] at c0
          rw [← hrk] at c1
          rw [← hnx] at c2 H
          rw [← hcp] at c3 H
          rw [← hgt] at c4 H
          rw [← hls] at c5 H
          have Hrk := hide hrk
          clear htp hrk hnx hcp hgt hls hS hle ha' f1 f2 f3 f4 f5 hs hg hc'
          go_wp2_with fail
          obtain ⟨Z, hZ⟩ : ∃ Z, Z = wr.alloc (.cells #[.int .i64 tp, .int .i64 rk, .int .u64 nx, .int .i64 cp, .int .u64 gt, .int .u64 ls] 137) := ⟨_, rfl⟩
          have hZs : Z.heap.size = wr.heap.size + 1 := by rw [hZ]; simp
          have hZr := row6 (show Z.heap[wr.heap.size]? = some (.cells #[.int .i64 tp, .int .i64 rk, .int .u64 nx, .int .i64 cp, .int .u64 gt, .int .u64 ls] 137 (0, 0)) by rw [hZ]; exact heap_alloc_new _ _)
          obtain ⟨z0, z1, z2, z3, z4, z5, zf, zl⟩ := hZr
          have zg : Z.cell? ⟨b', o' + j, none⟩ = some (.int .u64 g) := by rw [hZ]; exact (World.cell?_alloc_lt wr _ ⟨b', o' + j, none⟩ hb').trans d0
          have zb : b' < Z.heap.size := by omega
          rw [← hZ]
          have hZb := hbel.trans (show Below w.heap.size wr Z by rw [hZ]; exact (below_new wr _).mono hbel.size)
          have HZ := hide hZ
          clear hZ hZs
          have HK : ∀ w', Below Z.heap.size Z w' → w'.cell? ⟨wr.heap.size, 2, none⟩ = some (.int .u64 nx) ∧ w'.cell? ⟨wr.heap.size, 3, none⟩ = some (.int .i64 cp) ∧ w'.cell? ⟨wr.heap.size, 4, none⟩ = some (.int .u64 gt) ∧ w'.cell? ⟨wr.heap.size, 5, none⟩ = some (.int .u64 ls) ∧ w'.cell? ⟨b', o' + j, none⟩ = some (.int .u64 g) ∧ Below Z.heap.size Z w' :=
            fun w' hB => ⟨(hB.cell (p := ⟨wr.heap.size, 2, none⟩) zl).trans z2, (hB.cell (p := ⟨wr.heap.size, 3, none⟩) zl).trans z3, (hB.cell (p := ⟨wr.heap.size, 4, none⟩) zl).trans z4, (hB.cell (p := ⟨wr.heap.size, 5, none⟩) zl).trans z5, (hB.cell (p := ⟨b', o' + j, none⟩) zb).trans zg, hB⟩
          have HK0 := HK _ (Below.refl _ Z)
          have HK1 := HK _ (Below.refl _ Z).drew
          have hZa : ∀ x, Below (Z.alloc (.cells #[.int .u64 0, .int .i64 0, .int .u64 0, .int .u64 0] 133)).drew.heap.size (Z.alloc (.cells #[.int .u64 0, .int .i64 0, .int .u64 0, .int .u64 0] 133)).drew x → x.heap[Z.heap.size]? = some (.cells #[.int .u64 0, .int .i64 0, .int .u64 0, .int .u64 0] 133 (0, 0)) :=
            fun x hx => (hx.block Z.heap.size (by simp)).trans (heap_alloc_new Z (.cells #[.int .u64 0, .int .i64 0, .int .u64 0, .int .u64 0] 133))
          go_region_held3 (fun w' => w'.cell? ⟨wr.heap.size, 2, none⟩ = some (.int .u64 nx) ∧ w'.cell? ⟨wr.heap.size, 3, none⟩ = some (.int .i64 cp) ∧ w'.cell? ⟨wr.heap.size, 4, none⟩ = some (.int .u64 gt) ∧ w'.cell? ⟨wr.heap.size, 5, none⟩ = some (.int .u64 ls) ∧ w'.cell? ⟨b', o' + j, none⟩ = some (.int .u64 g) ∧ Below Z.heap.size Z w')
            (first | with_reducible assumption | with_reducible exact HK1 | (refine HK _ ?_; (repeat refine Below.setCell ?_ (by simp) _); first | with_reducible assumption | exact below_of_drew hb2 | exact below2 (below_new Z _) (below_of_drew hb2) | exact below2 (below_of_drew hb2) (below_new w2 _) | exact (below_new Z _).drew | exact below_new Z _))
            (first | (go_at_call 66; refine (H.out _).mono ?_; rintro e w2 ⟨rfl, hb2⟩; try (have hy := hZa w2 hb2; obtain ⟨y0, y1, y2, y3, yf, yl⟩ := row4 hy)))
          all_goals first
            | (have hx0 : (w2.alloc (.cells #[.int .u64 a', .int .i64 cp, .int .u64 gt, .int .u64 d'] 133)).cell? ⟨w2.heap.size, 0, none⟩ = some (.int .u64 a') := (by simp [go_sem])
               have hxB : Below Z.heap.size Z (w2.alloc (.cells #[.int .u64 a', .int .i64 cp, .int .u64 gt, .int .u64 d'] 133)) := below2 (below_of_drew hb2) (below_new w2 _)
               clear hb2
               generalize w2.alloc (.cells #[.int .u64 a', .int .i64 cp, .int .u64 gt, .int .u64 d'] 133) = wx at *
               generalize w2.heap.size = gx at *)
            | (obtain ⟨wx, hwx⟩ : ∃ wx, wx = ((((w2.setCell ⟨Z.heap.size, 0, none⟩ (.int .u64 a')).setCell ⟨Z.heap.size, 1, none⟩ (.int .i64 cp)).setCell ⟨Z.heap.size, 2, none⟩ (.int .u64 gt)).setCell ⟨Z.heap.size, 3, none⟩ (.int .u64 d')) := ⟨_, rfl⟩
               have hx0 : wx.cell? ⟨Z.heap.size, 0, none⟩ = some (.int .u64 a') := (by rw [hwx]; exact cell_of (set4 hy (.int .u64 a') (.int .i64 cp) (.int .u64 gt) (.int .u64 d')) 0)
               have hxB : Below Z.heap.size Z wx := (by rw [hwx]; exact ((((below2 (below_new Z _) (below_of_drew hb2)).setCell (Nat.le_refl _) _).setCell (Nat.le_refl _) _).setCell (Nat.le_refl _) _).setCell (Nat.le_refl _) _)
               rw [← hwx]
               clear hb2 hy y0 y1 y2 y3 yf yl hwx)
          all_goals (
            have e1 := (hxB.cell (p := ⟨wr.heap.size, 1, none⟩) zl).trans z1
            have eg := (hxB.cell (p := ⟨b', o' + j, none⟩) zb).trans zg
            have hxw : Below w.heap.size w wx := hZb.trans (hxB.mono hZb.size)
            have Hxw := hide hxw
            have el : wr.heap.size < wx.heap.size := Nat.lt_of_lt_of_le zl hxB.size
            have eb : b' < wx.heap.size := Nat.lt_of_lt_of_le zb hxB.size
            try clear HK HK0 HK1 hZa
            clear z0 z1 z2 z3 z4 z5 zf zg zb zl hZb HZ c0 c1 c2 c3 c4 c5 d0 hxB hxw H
            by_cases hq : g < a'
            · have Hp := hide (pick_skip Hs.out Hgj.out (by rw [HS.out]; exact hq))
              go_wp2_with fail
              go_quiet (fail)
              go_wp2
              go_roundw
              case rel => exact ⟨j + 1, by omega, by go_num, by rw [Hp.out], below_drewN Hxw.out _⟩
              case measure => simp [intOf]; omega
            · cases hpk : pickS l gens j with
              | none =>
                have Hp := hide (pick_first Hs.out Hgj.out (by rw [HS.out]; exact hq) hpk)
                simp only [bestV]
                clear hpk
                go_wp2_with fail
                go_quiet (fail)
                go_wp2_with fail
                go_quiet (fail)
                go_wp2
                go_roundw
                case rel => exact ⟨j + 1, by omega, by go_num, by rw [Hp.out]; rfl, below_drewN Hxw.out _⟩
                case measure => simp [intOf]; omega
              | some i =>
                have hij := pickS_lt l gens j i hpk
                obtain ⟨b3, o3, c3, s3, hs3, hv3, -, -, hb3, -, r3, -, -, -, -⟩ := (Hr.out.below Hxw.out).six Hn.out (show i < k by omega)
                cases hv3
                obtain ⟨rk3, hrk3⟩ : ∃ x, x = s3.rank := ⟨_, rfl⟩
                rw [← hrk3] at r3
                by_cases hle : rk ≤ rk3
                · have Hp := hide (pick_old Hs.out Hgj.out (by rw [HS.out]; exact hq) hpk hs3 (by rw [← Hrk.out, ← hrk3]; exact hle))
                  simp only [bestV]
                  clear hpk hs3 hrk3
                  go_wp2_with fail
                  go_quiet (fail)
                  go_wp2_with fail
                  go_quiet (fail)
                  go_wp2
                  go_roundw
                  case rel => exact ⟨j + 1, by omega, by go_num, by rw [Hp.out]; rfl, below_drewN Hxw.out _⟩
                  case measure => simp [intOf]; omega
                · have Hp := hide (pick_new Hs.out Hgj.out (by rw [HS.out]; exact hq) hpk hs3 (by rw [← Hrk.out, ← hrk3]; exact hle))
                  simp only [bestV]
                  clear hpk hs3 hrk3
                  go_wp2_with fail
                  go_quiet (fail)
                  go_wp2_with fail
                  go_quiet (fail)
                  go_wp2
                  go_roundw
                  case rel => exact ⟨j + 1, by omega, by go_num, by rw [Hp.out]; rfl, below_drewN Hxw.out _⟩
                  case measure => simp [intOf]; omega)
        · have hjk : j = k := by omega
          subst hjk
          clear hlt
          obtain ⟨bv, hbv⟩ : ∃ bv, bv = bestV (pickS l gens j) := ⟨_, rfl⟩
          rw [← hbv]
          go_wp2
          rw [Exit.noGoto_ret]
          go_ret2
          exact ⟨by subst hbv; rfl, hbel⟩

end Go.Proofs.YtpilfhjlfbjloaaGreatDoor
