/-
  The walk of the law ConfigParses: it answers true. Conditions: a text; the library's one variable that Split and Cut read holds an int.
-/
import Derived.Test.YtelacngphgebiaaDoorGRefParse
namespace Go.Proofs.YtelacngphgebiaaDoor
set_option pp.deepTerms true
set_option pp.maxSteps 1000000
open Go.RowKit

/-- What Parse tells, as one row. -/
def outS : Except (Int × Int) St → St × Int × Int
  | .error x => (⟨0, 0, 0, []⟩, x.1, x.2)
  | .ok st => (st, 0, 0)

theorem parse_out {l : List UInt8} {w w' : World} {e : Ending} (h : ParsePost l w e w') : Below w.heap.size w w' ∧ ∃ A c, e = .returned (.tuple #[cfgV (outS (parseS l)).1.a (.slice A (outS (parseS l)).1.ts.length c) (outS (parseS l)).1.b (outS (parseS l)).1.c, .int .i64 (outS (parseS l)).2.1, .int .i64 (outS (parseS l)).2.2]) ∧
    Rd w' (.slice A (outS (parseS l)).1.ts.length c) 3 (outS (parseS l)).1.ts.length (flatT (outS (parseS l)).1.ts) := by
  obtain ⟨hb, hm⟩ := h
  refine ⟨hb, ?_⟩
  cases hp : parseS l with
  | error x =>
    rw [hp] at hm
    exact ⟨none, 0, hm, Rd.nil _ _⟩
  | ok st =>
    rw [hp] at hm
    obtain ⟨v, he, hr⟩ := hm
    obtain ⟨A, c, rfl, -⟩ := id hr.shape
    exact ⟨A, c, he, hr⟩

theorem sameS_self (a : Int) (ts : List Tp) (b c : Int) : sameS a ts b c a ts b c = true := by
  unfold sameS
  exact decide_eq_true ⟨rfl, rfl, rfl, rfl, fun i h h' => sameT_self _⟩

set_option maxRecDepth 100000 in
set_option maxHeartbeats 1600000 in
theorem lawparses_any (s : ByteArray) (mx : Int) (w : World) (hm : w.cell? ⟨0, 0, none⟩ = some (.int .i64 mx)) :
    Calls Tryd.prog 5 #[.string s] w fun e w' => e = .returned (.bool true) ∧ Below w.heap.size w w' := by
  by_cases h1 : s.size ≤ 4000
  · have g1 : decide ((4000 : Int) < (s.size : Int)) = false := decide_eq_false (by omega)
    have g3 : decide ((70000 : Int) < (s.size : Int)) = false := decide_eq_false (by omega)
    have HP := hide (parse_any s mx w (.inl h1) (by omega) hm)
    have HR := hide (fun w => refparse_any s w (.inl h1) (by omega))
    clear h1
    go_enter Tryd.func5, Tryd.ntmps5
    go_wp2_with fail
    refine HP.out.mono ?_
    rintro e w1 hp
    obtain ⟨hb1, A, cc, rfl, hr1⟩ := parse_out hp
    clear hp
    obtain ⟨⟨st, n, f⟩, hst⟩ : ∃ q, q = outS (parseS s.data.toList) := ⟨_, rfl⟩
    rw [← hst] at hr1
    rw [← hst]
    have Hst := hide hst
    clear hst
    simp only at hr1
    have hN1 : w1.heap.size < (w1.alloc (.cells #[.int .i64 st.a, .slice A st.ts.length cc, .int .i64 st.b, .int .i64 st.c] 24)).heap.size := by simp
    go_wp2_with fail
    refine (HR.out _).mono ?_
    rintro e w2 hp
    obtain ⟨hb2, A', cc', rfl, hr2⟩ := parse_out hp
    clear hp
    rw [← Hst.out] at hr2
    rw [← Hst.out]
    simp only at hr2
    obtain ⟨hc2, hf2, hz2⟩ := bcell hb2
    have hb01 := below2 hb1 (below_new w1 (.cells #[.int .i64 st.a, .slice A st.ts.length cc, .int .i64 st.b, .int .i64 st.c] 24))
    have hb02 := below2 hb01 hb2
    have hb02a := below2 hb02 (below_new w2 (.cells #[.int .i64 st.a, .slice A' st.ts.length cc', .int .i64 st.b, .int .i64 st.c] 24))
    have hb12 := below2 (below_new w1 (.cells #[.int .i64 st.a, .slice A st.ts.length cc, .int .i64 st.b, .int .i64 st.c] 24)) (below2 hb2 (below_new w2 (.cells #[.int .i64 st.a, .slice A' st.ts.length cc', .int .i64 st.b, .int .i64 st.c] 24)))
    have hN12 : w1.heap.size < w2.heap.size := hz2 _ hN1
    go_wp2_with fail
    refine (refsame_any _ _ _ _ _ _ _ _ _ _ _ (hr1.below hb12) (hr2.below (below_new _ _))).mono ?_
    rintro e w3 ⟨rfl, hb3⟩
    rw [sameS_self]
    have hb03 := below2 hb02a hb3
    go_wp2_with fail
    refine (awake_any mx _ (two_kept hb03 hm)).mono ?_
    rintro e w4 ⟨rfl, hb4⟩
    go_wp2
    go_ret
    exact ⟨by simp, below2 hb03 hb4⟩
  · have g1 : decide ((4000 : Int) < (s.size : Int)) = true := decide_eq_true (by omega)
    by_cases h2 : s.size ≤ 65536
    · have g2 : decide ((s.size : Int) ≤ 65536) = true := decide_eq_true (by omega)
      clear h1 h2
      go_enter Tryd.func5, Tryd.ntmps5
      go_wp2_with fail
      refine (awake_any mx _ hm).mono ?_
      rintro e w1 ⟨rfl, hb1⟩
      go_wp2
      go_ret
      exact ⟨by simp, hb1⟩
    · have g2 : decide ((s.size : Int) ≤ 65536) = false := decide_eq_false (by omega)
      by_cases h3 : s.size ≤ 70000
      · have g3 : decide ((70000 : Int) < (s.size : Int)) = false := decide_eq_false (by omega)
        have HP := hide (parse_any s mx w (.inr (by omega)) (by omega) hm)
        have HR := hide (fun w => refparse_any s w (.inr (by omega)) (by omega))
        clear h1 h2 h3
        go_enter Tryd.func5, Tryd.ntmps5
        go_wp2_with fail
        refine HP.out.mono ?_
        rintro e w1 hp
        obtain ⟨hb1, A, cc, rfl, hr1⟩ := parse_out hp
        clear hp
        obtain ⟨⟨st, n, f⟩, hst⟩ : ∃ q, q = outS (parseS s.data.toList) := ⟨_, rfl⟩
        rw [← hst] at hr1
        rw [← hst]
        have Hst := hide hst
        clear hst
        simp only at hr1
        have hN1 : w1.heap.size < (w1.alloc (.cells #[.int .i64 st.a, .slice A st.ts.length cc, .int .i64 st.b, .int .i64 st.c] 24)).heap.size := by simp
        go_wp2_with fail
        refine (HR.out _).mono ?_
        rintro e w2 hp
        obtain ⟨hb2, A', cc', rfl, hr2⟩ := parse_out hp
        clear hp
        rw [← Hst.out] at hr2
        rw [← Hst.out]
        simp only at hr2
        obtain ⟨hc2, hf2, hz2⟩ := bcell hb2
        have hb01 := below2 hb1 (below_new w1 (.cells #[.int .i64 st.a, .slice A st.ts.length cc, .int .i64 st.b, .int .i64 st.c] 24))
        have hb02 := below2 hb01 hb2
        have hb02a := below2 hb02 (below_new w2 (.cells #[.int .i64 st.a, .slice A' st.ts.length cc', .int .i64 st.b, .int .i64 st.c] 24))
        have hb12 := below2 (below_new w1 (.cells #[.int .i64 st.a, .slice A st.ts.length cc, .int .i64 st.b, .int .i64 st.c] 24)) (below2 hb2 (below_new w2 (.cells #[.int .i64 st.a, .slice A' st.ts.length cc', .int .i64 st.b, .int .i64 st.c] 24)))
        have hN12 : w1.heap.size < w2.heap.size := hz2 _ hN1
        go_wp2_with fail
        refine (refsame_any _ _ _ _ _ _ _ _ _ _ _ (hr1.below hb12) (hr2.below (below_new _ _))).mono ?_
        rintro e w3 ⟨rfl, hb3⟩
        rw [sameS_self]
        have hb03 := below2 hb02a hb3
        go_wp2_with fail
        refine (awake_any mx _ (two_kept hb03 hm)).mono ?_
        rintro e w4 ⟨rfl, hb4⟩
        go_wp2
        go_ret
        exact ⟨by simp, below2 hb03 hb4⟩
      · have g3 : decide ((70000 : Int) < (s.size : Int)) = true := decide_eq_true (by omega)
        clear h1 h2 h3
        go_enter Tryd.func5, Tryd.ntmps5
        go_wp2_with fail
        refine (awake_any mx _ hm).mono ?_
        rintro e w1 ⟨rfl, hb1⟩
        go_wp2
        go_ret
        exact ⟨by simp, hb1⟩

end Go.Proofs.YtelacngphgebiaaDoor
