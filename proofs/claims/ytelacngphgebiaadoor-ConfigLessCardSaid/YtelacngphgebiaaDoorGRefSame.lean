/-
  The walk of the reference's Same: it tells whether two configs are one. Conditions: none.
-/
import Derived.Test.YtelacngphgebiaaDoorGRefCheck
namespace Go.Proofs.YtelacngphgebiaaDoor
set_option pp.deepTerms true
set_option pp.maxSteps 1000000
open Go.RowKit

/-- Are two topics one? -/
def sameT (t u : Tp) : Bool := (t.1.data.toList == u.1.data.toList) && (t.2.1 == u.2.1) && (t.2.2 == u.2.2)

/-- Are two configs one? -/
def sameS (a : Int) (ts : List Tp) (b c : Int) (a' : Int) (ts' : List Tp) (b' c' : Int) : Bool :=
  decide (a = a' ∧ b = b' ∧ c = c' ∧ ts.length = ts'.length ∧ ∀ i (h : i < ts.length) (h' : i < ts'.length), sameT ts[i] ts'[i] = true)

theorem sameT_self (t : Tp) : sameT t t = true := by simp [sameT]

set_option maxRecDepth 100000 in
theorem neq_topic (t u : Tp) (w : World) : (binOp .neq 42 (.agg #[.string t.1, .int .i64 t.2.1, .int .i64 t.2.2]) (.agg #[.string u.1, .int .i64 u.2.1, .int .i64 u.2.2])).run Tryd.prog w = .ok (.bool !(sameT t u)) w := by
  go_simp
  rw [sameT]
  have h1 : (t.1.toList = u.1.toList) = (t.1.data = u.1.data) := by rw [Lib.toList_data, Lib.toList_data]; simp
  by_cases e1 : t.1.data = u.1.data <;> by_cases e2 : t.2.1 = u.2.1 <;> by_cases e3 : t.2.2 = u.2.2 <;> simp [h1, e1, e2, e3]

set_option maxRecDepth 100000 in
set_option maxHeartbeats 1600000 in
theorem refsame_any (a b c a' b' c' : Int) (ts ts' : List Tp) (v v' : Value) (w : World) (hr : Rd w v 3 ts.length (flatT ts)) (hr' : Rd w v' 3 ts'.length (flatT ts')) :
    Calls Tryd.prog 18 #[cfgV a v b c, cfgV a' v' b' c'] w fun e w' => e = .returned (.bool (sameS a ts b c a' ts' b' c')) ∧ Below w.heap.size w w' := by
  obtain ⟨n, hn⟩ : ∃ n, ts.length = n := ⟨_, rfl⟩
  obtain ⟨m, hm⟩ : ∃ m, ts'.length = m := ⟨_, rfl⟩
  rw [hn] at hr
  rw [hm] at hr'
  obtain ⟨A, cc, rfl, hnc, hcm, hopen⟩ := id hr.shape
  obtain ⟨A', cc', rfl, hnc', hcm', hopen'⟩ := id hr'.shape
  have hbig : n ≤ 9223372036854775807 := by unfold maxLen at hcm; omega
  obtain ⟨R, hR⟩ : ∃ R, R = sameS a ts b c a' ts' b' c' := ⟨_, rfl⟩
  rw [← hR]
  have Hn := hide hn
  have Hm := hide hm
  have Hopen := hide hopen
  have Hopen' := hide hopen'
  by_cases ha : a = a'
  · have e1 : (a != a') = false := by simpa using ha
    by_cases hb : b = b'
    · have e2 : (b != b') = false := by simpa using hb
      by_cases hc : c = c'
      · have e3 : (c != c') = false := by simpa using hc
        by_cases hnm : n = m
        · subst ha
          subst hb
          subst hc
          subst hnm
          have HR := hide (show R = decide (∀ i (h : i < ts.length) (h' : i < ts'.length), sameT ts[i] ts'[i] = true) from by rw [hR, sameS]; simp [hn, hm])
          have hneq := neq_topic
          clear e1 e2 e3 hR hn hm hopen hopen' hr hr'
          go_enter Tryd.func18, Tryd.ntmps18
          go_wp2_with fail
          have hB0 := alloc_old _ (.cells #[.int .i64 a, .slice A' n cc', .int .i64 b, .int .i64 c] 24) _ _ (heap_alloc_new w (.cells #[.int .i64 a, .slice A n cc, .int .i64 b, .int .i64 c] 24))
          have hB1 := heap_alloc_new (w.alloc (.cells #[.int .i64 a, .slice A n cc, .int .i64 b, .int .i64 c] 24)) (.cells #[.int .i64 a, .slice A' n cc', .int .i64 b, .int .i64 c] 24)
          rw [alloc_size] at hB1
          have hbX := below_new2 w (.cells #[.int .i64 a, .slice A n cc, .int .i64 b, .int .i64 c] 24) (.cells #[.int .i64 a, .slice A' n cc', .int .i64 b, .int .i64 c] 24)
          generalize ((w.alloc (.cells #[.int .i64 a, .slice A n cc, .int .i64 b, .int .i64 c] 24)).alloc (.cells #[.int .i64 a, .slice A' n cc', .int .i64 b, .int .i64 c] 24)) = X at *
          go_loopw [5] (fun i wr => ∃ k : Nat, k ≤ n ∧ i = .int .i64 k ∧ Hid (∀ q (h : q < ts.length) (h' : q < ts'.length), q < k → sameT ts[q] ts'[q] = true) ∧ Below X.heap.size X wr) (fun i _ => n - (intOf i).toNat)
          case atStart => exact ⟨0, Nat.zero_le _, rfl, hide (fun q h h' hk => by omega), Below.refl _ _⟩
          case round =>
            obtain ⟨k, hk, rfl, Hq, hbel⟩ := hrel
            have hX0 : w.heap.size < X.heap.size := (Array.getElem?_eq_some_iff.1 hB0).1
            have hX1 : w.heap.size + 1 < X.heap.size := (Array.getElem?_eq_some_iff.1 hB1).1
            obtain ⟨c0, c1, c2, c3⟩ := cells4 ((hbel.block _ hX0).trans hB0)
            obtain ⟨d0, d1, d2, d3⟩ := cells4 ((hbel.block _ hX1).trans hB1)
            have hbw := below2 hbX hbel
            by_cases hlt : k < n
            · have hkl : k < ts.length := by have := Hn.out; omega
              have hkm : k < ts'.length := by have := Hm.out; omega
              have hd : decide (k < n) = true := decide_eq_true hlt
              obtain ⟨bk, o, rfl, hb0, hc0⟩ := Hopen.out (by omega)
              obtain ⟨bk', o', rfl, hb0', hc0'⟩ := Hopen'.out (by omega)
              obtain ⟨hx0, hx1, hx2⟩ := flatT_at ts k hkl
              obtain ⟨hy0, hy1, hy2⟩ := flatT_at ts' k hkm
              obtain ⟨t, ht⟩ : ∃ t, t = ts[k] := ⟨_, rfl⟩
              obtain ⟨u, hu⟩ : ∃ u, u = ts'[k] := ⟨_, rfl⟩
              rw [← ht] at hx0 hx1 hx2
              rw [← hu] at hy0 hy1 hy2
              have p0 := (hbw.cell (p := ⟨bk, o + k * 3, none⟩) hb0).trans (hc0 _ _ hx0)
              have p1 := (hbw.cell (p := ⟨bk, o + k * 3 + 1, none⟩) hb0).trans (hc0 _ _ hx1)
              have p2 := (hbw.cell (p := ⟨bk, o + k * 3 + 2, none⟩) hb0).trans (hc0 _ _ hx2)
              have r0 := (hbw.cell (p := ⟨bk', o' + k * 3, none⟩) hb0').trans (hc0' _ _ hy0)
              have r1 := (hbw.cell (p := ⟨bk', o' + k * 3 + 1, none⟩) hb0').trans (hc0' _ _ hy1)
              have r2 := (hbw.cell (p := ⟨bk', o' + k * 3 + 2, none⟩) hb0').trans (hc0' _ _ hy2)
              have hne := hneq t u
              clear hx0 hx1 hx2 hy0 hy1 hy2 hc0 hc0'
              cases hs : sameT t u with
              | true =>
                rw [hs] at hne
                have Hs := hide (show sameT ts[k] ts'[k] = true by rw [← ht, ← hu]; exact hs)
                clear ht hu hneq hs
                go_wp2_with fail
                go_quiet (fail)
                go_wp2
                go_roundw
                case rel => exact ⟨k + 1, by omega, by go_num, hide (fun q h h' hq => by
                  by_cases hqk : q = k
                  · subst hqk; exact Hs.out
                  · exact Hq.out q h h' (by omega)), below_drewN hbel _⟩
                case measure => simp [intOf]; omega
              | false =>
                rw [hs] at hne
                have hRf : R = false := by
                  rw [HR.out]
                  refine decide_eq_false fun h => ?_
                  have := h k hkl hkm
                  rw [← ht, ← hu, hs] at this
                  cases this
                have HRf := hide hRf
                clear ht hu hneq hs hRf HR
                go_wp2_with fail
                go_quiet (fail)
                go_wp2
                go_ret
                exact ⟨by rw [HRf.out]; simp, below_drewN hbw _⟩
            · have hkn : k = n := by omega
              subst hkn
              have hd : decide (k < k) = false := decide_eq_false (by omega)
              have hRt : R = true := by
                rw [HR.out]
                exact decide_eq_true fun i h h' => Hq.out i h h' (by have := Hn.out; omega)
              have HRt := hide hRt
              clear hRt HR hneq
              go_wp2
              go_ret
              exact ⟨by rw [HRt.out]; simp, hbw⟩
        · have e4 : ((n : Int) != (m : Int)) = true := by simp; omega
          have hRf : R = false := by rw [hR, sameS]; exact decide_eq_false fun h => hnm (by rw [← hn, ← hm]; exact h.2.2.2.1)
          have HRf := hide hRf
          clear hRf hR hn hm hopen hopen' hr hr' ha hb hc hnm
          go_enter Tryd.func18, Tryd.ntmps18
          go_wp2
          go_ret
          exact ⟨by rw [HRf.out]; simp, below_new2 w _ _⟩
      · have e3 : (c != c') = true := by simpa using hc
        have hRf : R = false := by rw [hR, sameS]; exact decide_eq_false fun h => hc h.2.2.1
        have HRf := hide hRf
        clear hRf hR hn hm hopen hopen' hr hr' ha hb hc
        go_enter Tryd.func18, Tryd.ntmps18
        go_wp2
        go_ret
        exact ⟨by rw [HRf.out]; simp, below_new2 w _ _⟩
    · have e2 : (b != b') = true := by simpa using hb
      have hRf : R = false := by rw [hR, sameS]; exact decide_eq_false fun h => hb h.2.1
      have HRf := hide hRf
      clear hRf hR hn hm hopen hopen' hr hr' ha hb
      go_enter Tryd.func18, Tryd.ntmps18
      go_wp2
      go_ret
      exact ⟨by rw [HRf.out]; simp, below_new2 w _ _⟩
  · have e1 : (a != a') = true := by simpa using ha
    have hRf : R = false := by rw [hR, sameS]; exact decide_eq_false fun h => ha h.1
    have HRf := hide hRf
    clear hRf hR hn hm hopen hopen' hr hr' ha
    go_enter Tryd.func18, Tryd.ntmps18
    go_wp2
    go_ret
    exact ⟨by rw [HRf.out]; simp, below_new2 w _ _⟩

end Go.Proofs.YtelacngphgebiaaDoor
