/-
  The walk of the law ConfigNames: it answers true. Conditions: a text; the library's one variable that Split and Cut read holds an int.
-/
import Derived.Test.YtelacngphgebiaaDoorGRefName
namespace Go.Proofs.YtelacngphgebiaaDoor
set_option pp.deepTerms true
set_option pp.maxSteps 1000000
open Go.RowKit

set_option maxRecDepth 100000 in
set_option maxHeartbeats 1600000 in
theorem lawnames_any (s : ByteArray) (mx : Int) (w : World) (hm : w.cell? ⟨0, 0, none⟩ = some (.int .i64 mx)) :
    Calls Tryd.prog 4 #[.string s] w fun e w' => e = .returned (.bool true) ∧ Below w.heap.size w w' := by
  by_cases hs : s.size ≤ 100
  · have hd : decide ((100 : Int) < (s.size : Int)) = false := decide_eq_false (by omega)
    have HN := hide (name_any s w (by omega))
    have HR := hide (fun w => refname_any s w (by omega))
    obtain ⟨R, hR⟩ : ∃ R, R = nameS s.data.toList := ⟨_, rfl⟩
    rw [← hR] at HN HR
    clear hR hs
    go_enter Tryd.func4, Tryd.ntmps4
    go_wp2_with fail
    refine HN.out.mono ?_
    rintro e w1 ⟨rfl, hb1⟩
    go_wp2_with fail
    refine (HR.out _).mono ?_
    rintro e w' ⟨rfl, rfl⟩
    go_wp2_with fail
    refine (awake_any mx _ (two_kept hb1 hm)).mono ?_
    rintro e w2 ⟨rfl, hb2⟩
    go_wp2
    go_ret
    exact ⟨by simp, below2 hb1 hb2⟩
  · have hd : decide ((100 : Int) < (s.size : Int)) = true := decide_eq_true (by omega)
    go_enter Tryd.func4, Tryd.ntmps4
    go_wp2_with fail
    refine (awake_any mx _ hm).mono ?_
    rintro e w1 ⟨rfl, hb1⟩
    go_wp2
    go_ret
    exact ⟨by simp, hb1⟩

end Go.Proofs.YtelacngphgebiaaDoor
