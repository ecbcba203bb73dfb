/-
  What the listed variables give: the calls' fields and the ways between modes stand in memory. Conditions: none.
-/
import Derived.Test.YtbbcajnbdebmfaaDoorBFrame
namespace Go.Proofs.YtbbcajnbdebmfaaDoor
open Go.ChangeShapes Go.WideShapes Go.ChangeAt Go.RowKit Go.Deep

/-- The ways, row by row. -/
def waysR : List (List Int) := [[0, 4432, 0, 0, 0, 0, 0, 0], [4112, 0, 4944, 0, 0, 0, 0, 4096], [0, 0, 0, 5184, 0, 0, 4096, 4096], [0, 0, 0, 0, 5568, 5248, 6144, 4096], [0, 0, 0, 5184, 0, 5248, 6144, 4096], [0, 0, 0, 5568, 0, 0, 6144, 4096], [4112, 0, 0, 5472, 0, 0, 0, 4096], [4112, 0, 0, 6080, 0, 0, 4096, 0]]

theorem waysR_at : ∀ k : Nat, k < 64 → (waysR[k / 8]?.bind fun r => r[k % 8]?) = some (waysL.getD k 0) := by decide
theorem fieldsL_at : ∀ k : Nat, k < 10 → fieldsL[k]? = some ((fieldsS k : Nat) : Int) := by decide

abbrev laidL : List (String × DataW Unit) := [("unicode/utf8.acceptRanges", Rows.laid_unicode_utf8_acceptRanges), ("aileron/modes.ways", Rows.laid_aileron_modes_ways), ("aileron/call.fields", Rows.laid_aileron_call_fields), ("unicode/utf8.first", Rows.laid_unicode_utf8_first)]

theorem noHandle {w : World} (h : laidMetH Tryd.prog laidL w) : laidMet Tryd.prog laidL w := by
  have e : (laidL.filter fun x => x.2.handleName?.isSome) = [] := by kernel_rfl
  unfold laidMetH at h
  rw [e] at h
  exact h

theorem var_lt {P : Program} {w : World} {n : String} {g : Nat} {cs : Array Value} (hg : P.globalNamed n = some g) (h : w.var? P n = some cs) : g < w.heap.size := by
  simp only [World.var?, hg, Option.bind_some] at h
  by_cases hl : g < w.heap.size
  · exact hl
  · rw [Array.getElem?_eq_none (Nat.le_of_not_lt hl)] at h
    cases h

set_option maxRecDepth 100000 in
theorem fields_at {w : World} (h : laidMetH Tryd.prog laidL w) : FieldsAt w := by
  obtain ⟨ps, hv, -, -⟩ := noHandle h
  obtain ⟨g, t, cs, fuel, p, hg, ht, hvar, hd⟩ := laidVars_mem hv (n := "aileron/call.fields") (d := Rows.laid_aileron_call_fields) (by simp [laidL])
  obtain rfl : g = 0 := Option.some.inj (hg.symm.trans (show Tryd.prog.globalNamed "aileron/call.fields" = some 0 by kernel_rfl))
  obtain rfl : t = 106 := Option.some.inj (ht.symm.trans (show (Tryd.prog.globals[0]?).map (·.type) = some 106 by kernel_rfl))
  have hcs := trod_row (zs := fieldsL) Tryd.underlying106 Tryd.underlying3 (by kernel_rfl) (by kernel_rfl) hd
  refine ⟨var_lt hg hvar, fun k hk => ?_⟩
  rw [World.var?_cell hg hvar k, ← Array.getElem?_toList, hcs, List.getElem?_map, fieldsL_at k hk]
  rfl

set_option maxRecDepth 100000 in
theorem ways_at {w : World} (h : laidMetH Tryd.prog laidL w) : WaysAt w := by
  obtain ⟨ps, hv, -, -⟩ := noHandle h
  obtain ⟨g, t, cs, fuel, p, hg, ht, hvar, hd⟩ := laidVars_mem hv (n := "aileron/modes.ways") (d := Rows.laid_aileron_modes_ways) (by simp [laidL])
  obtain rfl : g = 1 := Option.some.inj (hg.symm.trans (show Tryd.prog.globalNamed "aileron/modes.ways" = some 1 by kernel_rfl))
  obtain rfl : t = 143 := Option.some.inj (ht.symm.trans (show (Tryd.prog.globals[1]?).map (·.type) = some 143 by kernel_rfl))
  obtain ⟨hl, hcs⟩ := trod_rows (rows := waysR) Tryd.underlying143 Tryd.underlying142 Tryd.underlying3 (by kernel_rfl) (by kernel_rfl) (by kernel_rfl) hd
  refine ⟨var_lt hg hvar, fun k hk => ?_⟩
  rw [World.var?_cell hg hvar k, ← Array.getElem?_toList]
  have h1 := waysR_at k hk
  cases hr : waysR[k / 8]? with
  | none => rw [hr] at h1; cases h1
  | some r =>
    rw [hr] at h1
    simp only [Option.bind_some] at h1
    have h2 := congrArg (fun l : List Value => l[k % 8]?) (hcs (k / 8) r hr)
    simp only [List.getElem?_take, List.getElem?_drop, List.getElem?_map, h1, if_pos (Nat.mod_lt k (show 8 > 0 by omega))] at h2
    have e : k / 8 * 8 + k % 8 = k := by omega
    rw [e] at h2
    exact h2

end Go.Proofs.YtbbcajnbdebmfaaDoor
