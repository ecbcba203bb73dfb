/-
  The walk of the law ConfigPrints: it answers true. Conditions: a config; the library's one variable that Split and Cut read holds an int.
-/
import Derived.Test.YtelacngphgebiaaDoorGRefPrint
namespace Go.Proofs.YtelacngphgebiaaDoor
set_option pp.deepTerms true
set_option pp.maxSteps 1000000
open Go.RowKit

set_option maxRecDepth 100000 in
set_option maxHeartbeats 1600000 in
theorem lawprints_any (a b c : Int) (ts : List Tp) (u : Value) (mx : Int) (w : World) (hr : Rd w u 3 ts.length (flatT ts)) (hm : w.cell? ⟨0, 0, none⟩ = some (.int .i64 mx)) :
    Calls Tryd.prog 8 #[cfgV a u b c] w fun e w' => e = .returned (.bool true) ∧ Below w.heap.size w w' := by
  obtain ⟨A, cc, rfl, hnc, hcm, -⟩ := id hr.shape
  have hb0 := below_new w (.cells #[.int .i64 a, .slice A ts.length cc, .int .i64 b, .int .i64 c] 24)
  by_cases hf : fewS ts = true
  · obtain ⟨h80, h40⟩ := few_true hf
    have HFew := hide (fun w hr => few_any a b c ts (.slice A ts.length cc) w hr)
    rw [hf] at HFew
    have HC := hide (fun w hr => print_any a b c ts (.slice A ts.length cc) w hr (fun t ht => by have := h40 t ht; omega))
    have HR := hide (fun w hr => refprint_any a b c ts (.slice A ts.length cc) w hr (fun t ht => by have := h40 t ht; omega))
    obtain ⟨⟨F1, F2⟩, hF⟩ : ∃ F, F = printS a ts b c := ⟨_, rfl⟩
    rw [← hF] at HC HR
    obtain ⟨S, hS⟩ : ∃ S : ByteArray, S = ⟨F1.toArray⟩ := ⟨_, rfl⟩
    simp only [printV, ← hS] at HC HR
    clear hF hf h80 h40 hS
    go_enter Tryd.func8, Tryd.ntmps8
    go_wp2_with fail
    refine (HFew.out _ (hr.below hb0)).mono ?_
    rintro e w1 ⟨rfl, hb1⟩
    obtain ⟨hc1, hf1, hz1⟩ := bcell hb1
    have hb01 := below2 hb0 hb1
    have hN1 : w.heap.size < w1.heap.size := hz1 _ (by simp)
    go_wp2_with fail
    refine (HC.out _ (hr.below hb01)).mono ?_
    rintro e w2 ⟨rfl, hb2⟩
    obtain ⟨hc2, hf2, hz2⟩ := bcell hb2
    have hb02 := below2 hb01 hb2
    go_wp2_with fail
    refine (HR.out _ (hr.below hb02)).mono ?_
    rintro e w3 ⟨rfl, hb3⟩
    have hb03 := below2 hb02 hb3
    go_wp2_with fail
    refine (awake_any mx _ (two_kept hb03 hm)).mono ?_
    rintro e w4 ⟨rfl, hb4⟩
    go_wp2
    go_ret
    exact ⟨by simp, below2 hb03 hb4⟩
  · have hff : fewS ts = false := by simpa using hf
    have HFew := hide (fun w hr => few_any a b c ts (.slice A ts.length cc) w hr)
    rw [hff] at HFew
    clear hf hff
    go_enter Tryd.func8, Tryd.ntmps8
    go_wp2_with fail
    refine (HFew.out _ (hr.below hb0)).mono ?_
    rintro e w1 ⟨rfl, hb1⟩
    have hb01 := below2 hb0 hb1
    go_wp2_with fail
    refine (awake_any mx _ (two_kept hb01 hm)).mono ?_
    rintro e w2 ⟨rfl, hb2⟩
    go_wp2
    go_ret
    exact ⟨by simp, below2 hb01 hb2⟩

end Go.Proofs.YtelacngphgebiaaDoor
