/-
  What the frames of the blackboard's claims share: the witness's world; the laid variables' cells. Conditions: none. What the listed variables give: the calls' fields and the ways between modes stand in memory. Conditions: none.
-/
import Derived.Test.YtpilfhjlfbjloaaGreatDoorCards
import Derived.Test.YtpilfhjlfbjloaaGreatDoorTie
import Derived.Test.YtpilfhjlfbjloaaGreatDoorBLib
import Derived.Test.YtpilfhjlfbjloaaGreatDoorBCall
import Derived.Test.YtpilfhjlfbjloaaGreatDoorBReg
import Derived.WalkKit
import Derived.Shelf.Vars
import Derived.ProofKit
import Derived.OpenShut
import Derived.LaidMore
import Derived.Carry
import Derived.Deep.SlicePairs
import Derived.Deep.DeepHandedRow
import Derived.Deep.DeepWitnessRowRef
namespace Go.Proofs.YtpilfhjlfbjloaaGreatDoor
open Go.ChangeShapes Go.WideShapes Go.ChangeAt Go.RowKit Go.Deep

theorem own : ownKnob Tryz.prog.godebug = none := by kernel_rfl
theorem laidOut : laidOutB Tryz.prog = true := by kernel_rfl

/-- The witness's world: the door's own, the pinned table laid. -/
noncomputable def laidWorld (os : Os) : World :=
  let w0 := World.doorLaid Tryz.prog 400 os
  { w0 with heap := w0.heap.modify ((Tryz.prog.globalNamed "unicode/utf8.first").getD 0) fun
    | .cells _ t frozen => .cells (Go.Pinned.utf8FirstZ.map fun z : Nat => Value.int .u8 (z : Int)).toArray t frozen
    | o => o }

/-- A listed variable is laid. -/
theorem laidVars_mem {P : Program} {w : World} : ∀ {laid : List (String × DataW Unit)} {ps : List MemPlace}, DataW.LaidVars P w laid ps → ∀ {n d}, (n, d) ∈ laid →
    ∃ g t cs fuel p, P.globalNamed n = some g ∧ (P.globals[g]?).map (·.type) = some t ∧ w.var? P n = some cs ∧ DataW.trod (fun _ => ()) P w 0 (fun _ => true) false fuel t cs.toList = some (d, p)
  | [], _, _, _, _, hm => by simp at hm
  | (n', d') :: r, ps, h, n, d, hm => by
    obtain ⟨g, t, cs, fuel, p, q, h1, h2, h3, h4, h5, -⟩ := h
    rcases List.mem_cons.1 hm with he | he
    · cases he
      exact ⟨g, t, cs, fuel, p, h1, h2, h3, h4⟩
    · exact laidVars_mem h5 he

/-- An array of whole numbers that is laid. -/
theorem trod_row {H : Type} {enc : TypeId × Value → H} {P : Program} {w : World} {held : Bool} {fuel : Nat} {t e : TypeId} {n : Nat} {k : IntKind} {cs : List Value} {p : List MemPlace} {zs : List Int}
    (ht : P.underlying t = some (.array n e)) (he : P.underlying e = some (.int k)) (hce : P.cellsOf e = 1) (hct : P.cellsOf t = n)
    (h : DataW.trod enc P w 0 (fun _ => true) held fuel t cs = some (.agg (zs.map fun z => .lit (.int k z)), p)) : cs = zs.map (Value.int k) := by
  obtain ⟨xs, m, -, hx, hl, hxl, hi⟩ := DataW.trod_array ht h
  obtain ⟨hx1, -⟩ := Prod.mk.inj hx
  rw [hct] at hl
  have hx2 : (zs.map fun z => (DataW.lit (.int k z) : DataW H)) = xs.map (·.1) := by injection hx1
  have hzl : zs.length = n := by have := congrArg List.length hx2; simp at this; omega
  refine List.ext_getElem (by simp; omega) fun i h1 h2 => ?_
  have hin : i < n := by omega
  have := hi i hin
  rw [hce, Nat.mul_one] at this
  have hd : (cs.drop i).take 1 = [cs[i]] := by
    rw [List.drop_eq_getElem_cons h1]; rfl
  rw [hd, List.getElem?_eq_getElem (by omega)] at this
  obtain ⟨z, hz, hx, -⟩ := DataW.trod_int he this
  have h3 := congrArg (fun l : List (DataW H) => l[i]?) hx2
  simp only [List.getElem?_map] at h3
  rw [List.getElem?_eq_getElem (show i < zs.length by omega), List.getElem?_eq_getElem (show i < xs.length by omega)] at h3
  simp only [Option.map_some, Option.some.injEq] at h3
  rw [hx] at h3
  simp only [List.cons.injEq, and_true] at hz
  rw [hz, List.getElem_map]
  simp only [DataW.lit.injEq, Lit.int.injEq, true_and] at h3
  rw [h3]

/-- An array of such arrays. -/
theorem trod_rows {H : Type} {enc : TypeId × Value → H} {P : Program} {w : World} {held : Bool} {fuel : Nat} {t e e' : TypeId} {n n' : Nat} {k : IntKind} {cs : List Value} {p : List MemPlace} {rows : List (List Int)}
    (ht : P.underlying t = some (.array n e)) (hte : P.underlying e = some (.array n' e')) (he : P.underlying e' = some (.int k)) (hce : P.cellsOf e' = 1) (hct : P.cellsOf e = n') (hcc : P.cellsOf t = n * n')
    (h : DataW.trod enc P w 0 (fun _ => true) held fuel t cs = some (.agg (rows.map fun r => .agg (r.map fun z => .lit (.int k z))), p)) :
    cs.length = n * n' ∧ ∀ i r, rows[i]? = some r → (cs.drop (i * n')).take n' = r.map (Value.int k) := by
  obtain ⟨xs, m, -, hx, hl, hxl, hi⟩ := DataW.trod_array ht h
  obtain ⟨hx1, -⟩ := Prod.mk.inj hx
  rw [hcc] at hl
  refine ⟨hl, fun i r hr => ?_⟩
  have hx2 : (rows.map fun r => (DataW.agg (r.map fun z => .lit (.int k z)) : DataW H)) = xs.map (·.1) := by injection hx1
  have hzl : rows.length = n := by have := congrArg List.length hx2; simp at this; omega
  have hir := (List.getElem?_eq_some_iff.1 hr).1
  have := hi i (by omega)
  rw [hct] at this
  have h3 := congrArg (fun l : List (DataW H) => l[i]?) hx2
  simp only [List.getElem?_map] at h3
  rw [hr, List.getElem?_eq_getElem (show i < xs.length by omega)] at h3
  simp only [Option.map_some, Option.some.injEq] at h3
  rw [List.getElem?_eq_getElem (show i < xs.length by omega)] at this
  have h4 : xs[i] = (.agg (r.map fun z => .lit (.int k z)), xs[i].2) := by rw [h3]
  rw [h4] at this
  exact trod_row hte he hce hct this

end Go.Proofs.YtpilfhjlfbjloaaGreatDoor

namespace Go.Proofs.YtpilfhjlfbjloaaGreatDoor
open Go.ChangeShapes Go.WideShapes Go.ChangeAt Go.RowKit Go.Deep

/-- The ways, row by row. -/
def waysR : List (List Int) := [[0, 4432, 0, 0, 0, 0, 0, 0], [4112, 0, 4944, 0, 0, 0, 0, 4096], [0, 0, 0, 5184, 0, 0, 4096, 4096], [0, 0, 0, 0, 5568, 5248, 6144, 4096], [0, 0, 0, 5184, 0, 5248, 6144, 4096], [0, 0, 0, 5568, 0, 0, 6144, 4096], [4112, 0, 0, 5472, 0, 0, 0, 4096], [4112, 0, 0, 6080, 0, 0, 4096, 0]]

theorem waysR_at : ∀ k : Nat, k < 64 → (waysR[k / 8]?.bind fun r => r[k % 8]?) = some (waysL.getD k 0) := by decide
theorem fieldsL_at : ∀ k : Nat, k < 10 → fieldsL[k]? = some ((fieldsS k : Nat) : Int) := by decide

abbrev laidL : List (String × DataW Unit) := [("unicode/utf8.acceptRanges", Rows.laid_unicode_utf8_acceptRanges), ("aileron/modes.ways", Rows.laid_aileron_modes_ways), ("aileron/call.fields", Rows.laid_aileron_call_fields), ("unicode/utf8.first", Rows.laid_unicode_utf8_first)]

theorem noHandle {w : World} (h : laidMetH Tryz.prog laidL w) : laidMet Tryz.prog laidL w := by
  have e : (laidL.filter fun x => x.2.handleName?.isSome) = [] := by kernel_rfl
  unfold laidMetH at h
  rw [e] at h
  exact h

theorem var_lt {P : Program} {w : World} {n : String} {g : Nat} {cs : Array Value} (hg : P.globalNamed n = some g) (h : w.var? P n = some cs) : g < w.heap.size := by
  simp only [World.var?, hg, Option.bind_some] at h
  by_cases hl : g < w.heap.size
  · exact hl
  · rw [Array.getElem?_eq_none (Nat.le_of_not_lt hl)] at h
    cases h

set_option maxRecDepth 100000 in
theorem fields_at {w : World} (h : laidMetH Tryz.prog laidL w) : FieldsAt w := by
  obtain ⟨ps, hv, -, -⟩ := noHandle h
  obtain ⟨g, t, cs, fuel, p, hg, ht, hvar, hd⟩ := laidVars_mem hv (n := "aileron/call.fields") (d := Rows.laid_aileron_call_fields) (by simp [laidL])
  obtain rfl : g = 0 := Option.some.inj (hg.symm.trans (show Tryz.prog.globalNamed "aileron/call.fields" = some 0 by kernel_rfl))
  obtain rfl : t = 127 := Option.some.inj (ht.symm.trans (show (Tryz.prog.globals[0]?).map (·.type) = some 127 by kernel_rfl))
  have hcs := trod_row (zs := fieldsL) Tryz.underlying127 Tryz.underlying3 (by kernel_rfl) (by kernel_rfl) hd
  refine ⟨var_lt hg hvar, fun k hk => ?_⟩
  rw [World.var?_cell hg hvar k, ← Array.getElem?_toList, hcs, List.getElem?_map, fieldsL_at k hk]
  rfl

set_option maxRecDepth 100000 in
theorem ways_at {w : World} (h : laidMetH Tryz.prog laidL w) : WaysAt w := by
  obtain ⟨ps, hv, -, -⟩ := noHandle h
  obtain ⟨g, t, cs, fuel, p, hg, ht, hvar, hd⟩ := laidVars_mem hv (n := "aileron/modes.ways") (d := Rows.laid_aileron_modes_ways) (by simp [laidL])
  obtain rfl : g = 2 := Option.some.inj (hg.symm.trans (show Tryz.prog.globalNamed "aileron/modes.ways" = some 2 by kernel_rfl))
  obtain rfl : t = 236 := Option.some.inj (ht.symm.trans (show (Tryz.prog.globals[2]?).map (·.type) = some 236 by kernel_rfl))
  obtain ⟨hl, hcs⟩ := trod_rows (rows := waysR) Tryz.underlying236 Tryz.underlying235 Tryz.underlying3 (by kernel_rfl) (by kernel_rfl) (by kernel_rfl) hd
  refine ⟨var_lt hg hvar, fun k hk => ?_⟩
  rw [World.var?_cell hg hvar k, ← Array.getElem?_toList]
  have h1 := waysR_at k hk
  cases hr : waysR[k / 8]? with
  | none => rw [hr] at h1; cases h1
  | some r =>
    rw [hr] at h1
    simp only [Option.bind_some] at h1
    have h2 := congrArg (fun l : List Value => l[k % 8]?) (hcs (k / 8) r hr)
    simp only [List.getElem?_take, List.getElem?_drop, List.getElem?_map, h1, if_pos (Nat.mod_lt k (show 8 > 0 by omega))] at h2
    have e : k / 8 * 8 + k % 8 = k := by omega
    rw [e] at h2
    exact h2

end Go.Proofs.YtpilfhjlfbjloaaGreatDoor
