/-
  An argument that is a row of acts, opened. Conditions: none. What the listed variables give: the calls' fields and the ways between modes stand in memory. Conditions: none. The document's blackboard as plain data: all records, queues as lists; that each call keeps them. No program in sight. Conditions: none.
-/
import Derived.Test.YtclgmikdjcjjdaaGreatDoorBOpenC
import Derived.Test.YtclgmikdjcjjdaaGreatDoorBActs
import Derived.Test.YtclgmikdjcjjdaaGreatDoorBFrame
import Derived.Test.YtclgmikdjcjjdaaGreatDoorBHas
namespace Go.Proofs.YtclgmikdjcjjdaaGreatDoor
open Go.ChangeShapes Go.WideShapes Go.ChangeAt Go.RowKit Go.Deep

theorem block_of_cell {w : World} {p : Addr} {v : Value} (h : w.cell? p = some v) : p.block < w.heap.size := by
  simp only [World.cell?] at h
  by_cases hbl : p.block < w.heap.size
  · exact hbl
  · have hn : w.heap[p.block]? = none := Array.getElem?_eq_none (Nat.le_of_not_lt hbl)
    simp [hn] at h

set_option maxRecDepth 100000 in
/-- A row of elements of one cell each. -/
theorem open_row1 {H : Type} {enc : TypeId × Value → H} {w : World} {held : Bool} {fuel : Nat} {t e : TypeId} {v : Value} {x : DataW H × List MemPlace} {α : Type} (f : α → Value)
    (ht : Tryz.prog.underlying t = some (.slice e)) (hce : Tryz.prog.cellsOf e = 1)
    (hop : ∀ n v x, DataW.trod enc Tryz.prog w 0 (fun _ => true) held n e [v] = some x → ∃ z, v = f z)
    (h : DataW.trod enc Tryz.prog w 0 (fun _ => true) held fuel t [v] = some x) : ∃ zs : List α, Rd w v 1 zs.length (zs.map f) := by
  rcases open_slice1 ht hce h with ⟨hcs, -⟩ | ⟨a, len, cap, m, n, V, D, Pl, hcs, -, hl, hm, hmm, -, hi⟩
  · simp only [List.cons.injEq, and_true] at hcs
    subst hcs
    exact ⟨[], Rd.nil w 1⟩
  · simp only [List.cons.injEq, and_true] at hcs
    subst hcs
    have hlm : len ≤ m := by rw [hmm]; split <;> omega
    obtain ⟨b, o, spot⟩ := a
    have hnum : ∀ i, i < len → ∃ z : α, w.cell? (Addr.add ⟨b, o, spot⟩ i) = some (f z) := by
      intro i hil
      obtain ⟨h1, h2⟩ := hi i (by omega)
      obtain ⟨z, hz⟩ := hop _ _ _ h2
      exact ⟨z, by rw [h1, hz]⟩
    obtain ⟨zs, hzs, hat⟩ := choose_below len _ hnum
    refine ⟨zs, by simp, some ⟨b, o, spot⟩, cap, by rw [hzs], by omega, hm, fun hpos => ?_⟩
    rw [hzs] at hpos
    have h0 := hat 0 (by omega)
    have hspot : spot = none := by simpa [Addr.add] using World.cell?_spot h0
    subst hspot
    refine ⟨b, o, rfl, ?_, fun j u hj => ?_⟩
    · have := block_of_cell h0
      simpa [Addr.add] using this
    · have hjl : j < zs.length := by
        have := (List.getElem?_eq_some_iff.1 hj).1
        simpa using this
      have h1 := hat j hjl
      rw [List.getElem?_map, List.getElem?_eq_getElem hjl] at hj
      cases hj
      rw [← add_plain]
      exact h1

set_option maxRecDepth 100000 in
theorem open_ints {H : Type} {enc : TypeId × Value → H} {w : World} {held : Bool} {fuel : Nat} {v : Value} {x : DataW H × List MemPlace}
    (h : DataW.trod enc Tryz.prog w 0 (fun _ => true) held fuel 43 [v] = some x) : ∃ zs : List Int, Rd w v 1 zs.length (zs.map (Value.int .i64)) :=
  open_row1 (Value.int .i64) Tryz.underlying43 (by kernel_rfl) (fun n v x h => by
    obtain ⟨z, hz, -, -⟩ := DataW.trod_int Tryz.underlying3 h
    simp only [List.cons.injEq, and_true] at hz
    exact ⟨z, hz⟩) h

set_option maxRecDepth 100000 in
theorem open_words {H : Type} {enc : TypeId × Value → H} {w : World} {held : Bool} {fuel : Nat} {v : Value} {x : DataW H × List MemPlace}
    (h : DataW.trod enc Tryz.prog w 0 (fun _ => true) held fuel 39 [v] = some x) : ∃ zs : List Int, Rd w v 1 zs.length (u64V zs) :=
  open_row1 (Value.int .u64) Tryz.underlying39 (by kernel_rfl) (fun n v x h => by
    obtain ⟨z, hz, -, -⟩ := DataW.trod_int Tryz.underlying36 h
    simp only [List.cons.injEq, and_true] at hz
    exact ⟨z, hz⟩) h

/-- An act's twelve cells, given by their walk. -/
def actCells (a : Ac) : List Value := [.int .i64 a.task, .int .i64 a.c.kind, .int .i64 a.c.topic, .int .i64 a.c.sub, .int .i64 a.c.cap, .int .i64 a.c.rank, .int .i64 a.c.source, .int .i64 a.c.mode, .int .i64 a.c.flags, .bool a.c.free, a.sv, a.wv]

set_option maxRecDepth 100000 in
/-- One act. -/
theorem open_act {H : Type} {enc : TypeId × Value → H} {w : World} {held : Bool} {fuel : Nat} {cs : List Value} {x : DataW H × List MemPlace}
    (h : DataW.trod enc Tryz.prog w 0 (fun _ => true) held fuel 47 cs = some x) :
    ∃ a : Ac, cs = actCells a ∧ Rd w a.sv 1 a.c.set.length (a.c.set.map (Value.int .i64)) ∧ Rd w a.wv 1 a.c.words.length (u64V a.c.words) := by
  have c1 : Tryz.prog.cellsOf 3 = 1 := by kernel_rfl
  have c2 : Tryz.prog.cellsOf 4 = 1 := by kernel_rfl
  have c3 : Tryz.prog.cellsOf 43 = 1 := by kernel_rfl
  have c4 : Tryz.prog.cellsOf 39 = 1 := by kernel_rfl
  have c5 : Tryz.prog.cellsOf 45 = 11 := by kernel_rfl
  have c6 : Tryz.prog.cellsOf 47 = 12 := by kernel_rfl
  obtain ⟨xs, k, hk, hxy, hcl, hxl, hf⟩ := DataW.trod_struct Tryz.underlying47 h
  rw [c6] at hcl
  match cs, hcl with
  | [v0, v1, v2, v3, v4, v5, v6, v7, v8, v9, v10, v11], _ =>
    match xs, hxl with
    | [y0, y1], _ =>
      have g0 := hf 0 _ rfl
      have g1 := hf 1 _ rfl
      simp [c1, c5] at g0 g1
      obtain ⟨ys, k', hk', hyx, hcl', hyl, hf'⟩ := DataW.trod_struct Tryz.underlying45 g1
      match ys, hyl with
      | [z1, z2, z3, z4, z5, z6, z7, z8, z9, z10, z11], _ =>
        have e1 := hf' 0 _ rfl
        have e2 := hf' 1 _ rfl
        have e3 := hf' 2 _ rfl
        have e4 := hf' 3 _ rfl
        have e5 := hf' 4 _ rfl
        have e6 := hf' 5 _ rfl
        have e7 := hf' 6 _ rfl
        have e8 := hf' 7 _ rfl
        have e9 := hf' 8 _ rfl
        have e10 := hf' 9 _ rfl
        have e11 := hf' 10 _ rfl
        simp [c1, c2, c3, c4] at e1 e2 e3 e4 e5 e6 e7 e8 e9 e10 e11
        obtain ⟨a0, h0, -, -⟩ := DataW.trod_int Tryz.underlying3 g0
        obtain ⟨a1, h1, -, -⟩ := DataW.trod_int Tryz.underlying3 e1
        obtain ⟨a2, h2, -, -⟩ := DataW.trod_int Tryz.underlying3 e2
        obtain ⟨a3, h3, -, -⟩ := DataW.trod_int Tryz.underlying3 e3
        obtain ⟨a4, h4, -, -⟩ := DataW.trod_int Tryz.underlying3 e4
        obtain ⟨a5, h5, -, -⟩ := DataW.trod_int Tryz.underlying3 e5
        obtain ⟨a6, h6, -, -⟩ := DataW.trod_int Tryz.underlying3 e6
        obtain ⟨a7, h7, -, -⟩ := DataW.trod_int Tryz.underlying3 e7
        obtain ⟨a8, h8, -, -⟩ := DataW.trod_int Tryz.underlying3 e8
        obtain ⟨a9, h9, -⟩ := DataW.trod_bool Tryz.underlying4 e9
        obtain ⟨a10, h10⟩ := open_ints e10
        obtain ⟨a11, h11⟩ := open_words e11
        simp only [List.cons.injEq, and_true] at h0 h1 h2 h3 h4 h5 h6 h7 h8 h9
        subst h0 h1 h2 h3 h4 h5 h6 h7 h8 h9
        exact ⟨⟨a0, ⟨a1, a2, a3, a4, a5, a6, a7, a8, a9, a10, a11⟩, v10, v11⟩, rfl, h10, h11⟩

set_option maxRecDepth 100000 in
/-- An argument that is a row of acts. -/
theorem open_acts {H : Type} {enc : TypeId × Value → H} {w : World} {held : Bool} {fuel : Nat} {v : Value} {x : DataW H × List MemPlace}
    (h : DataW.trod enc Tryz.prog w 0 (fun _ => true) held fuel 25 [v] = some x) : ∃ l : List Ac, ActsAt w v l := by
  have hce : Tryz.prog.cellsOf 47 = 12 := by kernel_rfl
  rcases open_slice Tryz.underlying25 h with ⟨hcs, -⟩ | ⟨a, len, cap, m, n, D, Pl, hcs, -, hl, hm, hmm, -, hi⟩
  · simp only [List.cons.injEq, and_true] at hcs
    subst hcs
    exact ⟨[], none, 0, rfl, Nat.le_refl _, by simp [maxLen], fun h => by simp at h⟩
  · simp only [List.cons.injEq, and_true] at hcs
    subst hcs
    have hlm : len ≤ m := by rw [hmm]; split <;> omega
    obtain ⟨b, o, spot⟩ := a
    have hnum : ∀ i, i < len → ∃ a : Ac, (∀ j u, (actCells a)[j]? = some u → w.cell? (Addr.add ⟨b, o, spot⟩ (i * 12 + j)) = some u) ∧ Rd w a.sv 1 a.c.set.length (a.c.set.map (Value.int .i64)) ∧ Rd w a.wv 1 a.c.words.length (u64V a.c.words) := by
      intro i hil
      obtain ⟨cs', h1, h2⟩ := hi i (by omega)
      rw [hce] at h1
      obtain ⟨_, hlen, hcell⟩ := World.cells?_some h1
      obtain ⟨a, rfl, h3, h4⟩ := open_act h2
      refine ⟨a, fun j u hj => ?_, h3, h4⟩
      have hj12 : j < 12 := (List.getElem?_eq_some_iff.1 hj).1
      have := hcell j hj12
      rw [add_add] at this
      rw [this]
      rw [← hj]
    obtain ⟨l, hl', hat⟩ := choose_below len _ hnum
    refine ⟨l, some ⟨b, o, spot⟩, cap, by rw [hl'], by omega, hm, fun hpos => ?_⟩
    rw [hl'] at hpos
    have h0 := (hat 0 (by omega)).1 0 _ rfl
    have hspot : spot = none := by simpa [Addr.add] using World.cell?_spot h0
    subst hspot
    have hb : b < w.heap.size := by simpa [Addr.add] using block_of_cell h0
    refine ⟨b, o, rfl, hb, fun i a ha => ?_⟩
    obtain ⟨hil, rfl⟩ := List.getElem?_eq_some_iff.1 ha
    obtain ⟨h1, h2, h3⟩ := hat i hil
    have hc : ∀ j u, (actCells l[i])[j]? = some u → w.cell? ⟨b, o + i * 12 + j, none⟩ = some u := fun j u hj => by
      have := h1 j u hj
      rwa [add_plain, ← Nat.add_assoc] at this
    exact ⟨hc 0 _ rfl, hc 1 _ rfl, hc 2 _ rfl, hc 3 _ rfl, hc 4 _ rfl, hc 5 _ rfl, hc 6 _ rfl, hc 7 _ rfl, hc 8 _ rfl, hc 9 _ rfl, hc 10 _ rfl, hc 11 _ rfl, hb, h2, h3⟩

set_option maxRecDepth 100000 in
theorem open_actsArg {H : Type} {enc : TypeId × Value → H} {w : World} {base : Nat} {held : Bool} {v : Value} {d : DataW H} {p : List MemPlace}
    (hok : Value.okWide Tryz.prog w .any base 25 v) (h : DataW.Trod enc Tryz.prog w 0 (fun _ => true) held 25 v d p) : ∃ l : List Ac, ActsAt w v l := by
  obtain ⟨a, n, c, rfl⟩ := okWide_slice Tryz.underlying25 hok
  obtain ⟨fuel, hf⟩ := h
  exact open_acts (by simpa [Value.cells] using hf)

end Go.Proofs.YtclgmikdjcjjdaaGreatDoor

namespace Go.Proofs.YtclgmikdjcjjdaaGreatDoor
open Go.ChangeShapes Go.WideShapes Go.ChangeAt Go.RowKit Go.Deep

/-- The ways, row by row. -/
def waysR : List (List Int) := [[0, 4432, 0, 0, 0, 0, 0, 0], [4112, 0, 4944, 0, 0, 0, 0, 4096], [0, 0, 0, 5184, 0, 0, 4096, 4096], [0, 0, 0, 0, 5568, 5248, 6144, 4096], [0, 0, 0, 5184, 0, 5248, 6144, 4096], [0, 0, 0, 5568, 0, 0, 6144, 4096], [4112, 0, 0, 5472, 0, 0, 0, 4096], [4112, 0, 0, 6080, 0, 0, 4096, 0]]

theorem waysR_at : ∀ k : Nat, k < 64 → (waysR[k / 8]?.bind fun r => r[k % 8]?) = some (waysL.getD k 0) := by decide
theorem fieldsL_at : ∀ k : Nat, k < 10 → fieldsL[k]? = some ((fieldsS k : Nat) : Int) := by decide

abbrev laidL : List (String × DataW Unit) := [("unicode/utf8.acceptRanges", Rows.laid_unicode_utf8_acceptRanges), ("aileron/modes.ways", Rows.laid_aileron_modes_ways), ("aileron/call.fields", Rows.laid_aileron_call_fields), ("unicode/utf8.first", Rows.laid_unicode_utf8_first)]

theorem noHandle {w : World} (h : laidMetH Tryz.prog laidL w) : laidMet Tryz.prog laidL w := by
  have e : (laidL.filter fun x => x.2.handleName?.isSome) = [] := by kernel_rfl
  unfold laidMetH at h
  rw [e] at h
  exact h

theorem var_lt {P : Program} {w : World} {n : String} {g : Nat} {cs : Array Value} (hg : P.globalNamed n = some g) (h : w.var? P n = some cs) : g < w.heap.size := by
  simp only [World.var?, hg, Option.bind_some] at h
  by_cases hl : g < w.heap.size
  · exact hl
  · rw [Array.getElem?_eq_none (Nat.le_of_not_lt hl)] at h
    cases h

set_option maxRecDepth 100000 in
theorem fields_at {w : World} (h : laidMetH Tryz.prog laidL w) : FieldsAt w := by
  obtain ⟨ps, hv, -, -⟩ := noHandle h
  obtain ⟨g, t, cs, fuel, p, hg, ht, hvar, hd⟩ := laidVars_mem hv (n := "aileron/call.fields") (d := Rows.laid_aileron_call_fields) (by simp [laidL])
  obtain rfl : g = 0 := Option.some.inj (hg.symm.trans (show Tryz.prog.globalNamed "aileron/call.fields" = some 0 by kernel_rfl))
  obtain rfl : t = 115 := Option.some.inj (ht.symm.trans (show (Tryz.prog.globals[0]?).map (·.type) = some 115 by kernel_rfl))
  have hcs := trod_row (zs := fieldsL) Tryz.underlying115 Tryz.underlying3 (by kernel_rfl) (by kernel_rfl) hd
  refine ⟨var_lt hg hvar, fun k hk => ?_⟩
  rw [World.var?_cell hg hvar k, ← Array.getElem?_toList, hcs, List.getElem?_map, fieldsL_at k hk]
  rfl

set_option maxRecDepth 100000 in
theorem ways_at {w : World} (h : laidMetH Tryz.prog laidL w) : WaysAt w := by
  obtain ⟨ps, hv, -, -⟩ := noHandle h
  obtain ⟨g, t, cs, fuel, p, hg, ht, hvar, hd⟩ := laidVars_mem hv (n := "aileron/modes.ways") (d := Rows.laid_aileron_modes_ways) (by simp [laidL])
  obtain rfl : g = 1 := Option.some.inj (hg.symm.trans (show Tryz.prog.globalNamed "aileron/modes.ways" = some 1 by kernel_rfl))
  obtain rfl : t = 163 := Option.some.inj (ht.symm.trans (show (Tryz.prog.globals[1]?).map (·.type) = some 163 by kernel_rfl))
  obtain ⟨hl, hcs⟩ := trod_rows (rows := waysR) Tryz.underlying163 Tryz.underlying162 Tryz.underlying3 (by kernel_rfl) (by kernel_rfl) (by kernel_rfl) hd
  refine ⟨var_lt hg hvar, fun k hk => ?_⟩
  rw [World.var?_cell hg hvar k, ← Array.getElem?_toList]
  have h1 := waysR_at k hk
  cases hr : waysR[k / 8]? with
  | none => rw [hr] at h1; cases h1
  | some r =>
    rw [hr] at h1
    simp only [Option.bind_some] at h1
    have h2 := congrArg (fun l : List Value => l[k % 8]?) (hcs (k / 8) r hr)
    simp only [List.getElem?_take, List.getElem?_drop, List.getElem?_map, h1, if_pos (Nat.mod_lt k (show 8 > 0 by omega))] at h2
    have e : k / 8 * 8 + k % 8 = k := by omega
    rw [e] at h2
    exact h2

end Go.Proofs.YtclgmikdjcjjdaaGreatDoor

namespace Go.Proofs.YtclgmikdjcjjdaaGreatDoor
open Go.RowKit

/-- A subscription's queue, as a list. -/
def qS (s : Sb) (g : Nat) : List Nat := List.range' (seeS s.cu g).next (g + 1 - (seeS s.cu g).next)

theorem see_le (c : Cu) (g : Nat) (h : c.next ≤ g + 1) (hc : 1 ≤ c.cap) : (seeS c g).next ≤ g + 1 ∧ g + 1 - (seeS c g).next ≤ c.cap ∧ c.next ≤ (seeS c g).next := by
  unfold seeS
  by_cases h1 : g < c.next
  · rw [if_pos h1]; omega
  · by_cases h2 : c.cap < g - c.next + 1
    · rw [if_neg h1, if_pos h2]; simp only; omega
    · rw [if_neg h1, if_neg h2]; omega

theorem see_idem (c : Cu) (g : Nat) : seeS (seeS c g) g = seeS c g := by
  by_cases h1 : g < c.next
  · have e : seeS c g = c := by unfold seeS; rw [if_pos h1]
    rw [e, e]
  · by_cases h2 : c.cap < g - c.next + 1
    · have e : seeS c g = ⟨g + 1 - c.cap, c.cap, c.got, c.lost + (g + 1 - c.cap - c.next)⟩ := by unfold seeS; rw [if_neg h1, if_pos h2]
      rw [e]
      unfold seeS
      simp only
      split
      · rfl
      · rw [if_neg (by omega)]
    · have e : seeS c g = c := by unfold seeS; rw [if_neg h1, if_neg h2]
      rw [e, e]

theorem see_step (c : Cu) (g : Nat) (h : c.next ≤ g + 1) (hc : 1 ≤ c.cap) : seeS c (g + 1) = if g + 1 - (seeS c g).next = c.cap then ⟨(seeS c g).next + 1, c.cap, c.got, (seeS c g).lost + 1⟩ else seeS c g := by
  by_cases h1 : g < c.next
  · have e : seeS c g = c := by unfold seeS; rw [if_pos h1]
    rw [e, if_neg (by omega)]
    unfold seeS
    rw [if_neg (by omega), if_neg (by omega)]
  · by_cases h2 : c.cap < g - c.next + 1
    · have e : seeS c g = ⟨g + 1 - c.cap, c.cap, c.got, c.lost + (g + 1 - c.cap - c.next)⟩ := by unfold seeS; rw [if_neg h1, if_pos h2]
      rw [e, if_pos (by simp only; omega)]
      unfold seeS
      rw [if_neg (by omega), if_pos (by omega)]
      simp only [Cu.mk.injEq, true_and]
      omega
    · have e : seeS c g = c := by unfold seeS; rw [if_neg h1, if_neg h2]
      rw [e]
      by_cases h3 : g + 1 - c.next = c.cap
      · rw [if_pos h3]
        unfold seeS
        rw [if_neg (by omega), if_pos (by omega)]
        simp only [Cu.mk.injEq, true_and]
        omega
      · rw [if_neg h3]
        unfold seeS
        rw [if_neg (by omega), if_neg (by omega)]

theorem q_len (s : Sb) (g : Nat) : (qS s g).length = g + 1 - (seeS s.cu g).next := by simp [qS]

/-- What is published is put behind the queue; what is too much is lost. -/
theorem q_step (s : Sb) (g : Nat) (h : s.cu.next ≤ g + 1) (hc : 1 ≤ s.cu.cap) :
    qS s (g + 1) = (if (qS s g).length = s.cu.cap then (qS s g).tail else qS s g) ++ [g + 1] ∧ (seeS s.cu (g + 1)).lost = (if (qS s g).length = s.cu.cap then (seeS s.cu g).lost + 1 else (seeS s.cu g).lost) := by
  obtain ⟨h1, h2, h3⟩ := see_le s.cu g h hc
  rw [q_len]
  have hs := see_step s.cu g h hc
  by_cases hq : g + 1 - (seeS s.cu g).next = s.cu.cap
  · rw [if_pos hq] at hs
    rw [if_pos hq, if_pos hq]
    refine ⟨?_, by rw [hs]⟩
    unfold qS
    rw [hs]
    simp only
    obtain ⟨d, hd⟩ : ∃ d, g + 1 - (seeS s.cu g).next = d + 1 := ⟨g - (seeS s.cu g).next, by omega⟩
    rw [hd, List.range'_succ, List.tail_cons, show g + 1 + 1 - ((seeS s.cu g).next + 1) = d + 1 by omega, List.range'_1_concat]
    congr 2
    omega
  · rw [if_neg hq] at hs
    rw [if_neg hq, if_neg hq]
    refine ⟨?_, by rw [hs]⟩
    unfold qS
    rw [hs, show g + 1 + 1 - (seeS s.cu g).next = (g + 1 - (seeS s.cu g).next) + 1 by omega, List.range'_1_concat]
    congr 2
    omega

/-- A cursor that has looked has the same queue. -/
theorem q_seen (s : Sb) (g : Nat) : qS { s with cu := seeS s.cu g } g = qS s g := by
  unfold qS
  simp only [see_idem]

theorem see_take (c : Cu) (g : Nat) (h : c.next ≤ g + 1) (hc : 1 ≤ c.cap) : seeS (takeS c g) g = takeS c g := by
  obtain ⟨h1, h2, h3⟩ := see_le c g h hc
  have hcap := seeS_cap c g
  unfold takeS
  generalize seeS c g = d at *
  unfold seeS
  simp only
  split
  · rfl
  · rw [if_neg (by omega)]

/-- What is taken is the queue's first. -/
theorem q_take (s : Sb) (g : Nat) (h : s.cu.next ≤ g + 1) (hc : 1 ≤ s.cu.cap) (hn : (seeS s.cu g).next ≤ g) : qS s g = (seeS s.cu g).next :: qS { s with cu := takeS s.cu g } g := by
  unfold qS
  rw [see_take s.cu g h hc]
  unfold takeS
  simp only
  obtain ⟨d, hd⟩ : ∃ d, g + 1 - (seeS s.cu g).next = d + 1 := ⟨g - (seeS s.cu g).next, by omega⟩
  rw [hd, List.range'_succ, show g + 1 - ((seeS s.cu g).next + 1) = d by omega]

/-! ### all records -/
structure Recs (S : Bd) (AL : Nat → List (List Int)) : Prop where
  len : ∀ t, t < S.gens.length → (AL t).length = S.gen t + 1
  rec_ : ∀ t g, t < S.gens.length → S.recs t g = if g ≤ S.gen t ∧ ((S.gen t - g : Nat) : Int) < S.depth t then (AL t)[g]? else none

/-- Subscriptions behind what was published. -/
def Fits (S : Bd) : Prop := ∀ l ∈ S.subs, ∀ s ∈ l, s.topic < S.gens.length ∧ 1 ≤ s.cu.cap ∧ s.cu.next ≤ S.gen s.topic + 1 ∧ (s.cu.cap : Int) + 1 ≤ S.depth s.topic

/-- All records behind a call. -/
def allS (S : Bd) (AL : Nat → List (List Int)) (S' : Bd) (c : Cl) : Nat → List (List Int) := fun t => if S'.gen t = S.gen t + 1 then AL t ++ [c.words] else AL t

theorem newest_all {S : Bd} {AL : Nat → List (List Int)} (h : Recs S AL) {t : Nat} (ht : t < S.gens.length) (hd : 1 ≤ S.depth t) : S.newest t = (AL t).getD (S.gen t) [] := by
  unfold Bd.newest
  rw [h.rec_ t _ ht, if_pos ⟨Nat.le_refl _, by rw [Nat.sub_self]; exact_mod_cast hd⟩]
  simp [List.getD_eq_getElem?_getD]

theorem queued_all {S : Bd} {AL : Nat → List (List Int)} (h : Recs S AL) (hf : Fits S) {l : List Sb} (hl : l ∈ S.subs) {s : Sb} (hs : s ∈ l) {g : Nat} (hg : g ∈ qS s (S.gen s.topic)) : (S.recs s.topic g).getD [] = (AL s.topic).getD g [] := by
  obtain ⟨h1, h2, h3, h4⟩ := hf l hl s hs
  obtain ⟨e1, e2, e3⟩ := see_le s.cu (S.gen s.topic) h3 h2
  unfold qS at hg
  rw [List.mem_range'_1] at hg
  rw [h.rec_ s.topic g h1, if_pos ⟨by omega, by omega⟩]
  simp [List.getD_eq_getElem?_getD]

/-- A call that publishes nothing keeps all records. -/
theorem Recs.same {S T : Bd} {AL : Nat → List (List Int)} (h : Recs S AL) (h1 : T.gens = S.gens) (h2 : T.recs = S.recs) (h3 : T.tp = S.tp) : Recs T AL where
  len := fun t ht => by
    unfold Bd.gen
    rw [h1] at ht ⊢
    exact h.len t ht
  rec_ := fun t g ht => by
    have := h.rec_ t g (by rw [← h1]; exact ht)
    unfold Bd.gen Bd.depth at this ⊢
    rw [h1, h2, h3]
    exact this

theorem Recs.pub {S : Bd} {AL : Nat → List (List Int)} (h : Recs S AL) (hd : ∀ t, t < S.gens.length → 2 ≤ S.depth t) {t : Nat} (ht : t < S.gens.length) (ws : List Int) :
    Recs { S with gens := S.gens.set t (S.gen t + 1), recs := pushS S t ws } (fun t' => if t' = t then AL t ++ [ws] else AL t') where
  len := fun t' ht' => by
    simp only [List.length_set] at ht'
    unfold Bd.gen
    simp only [List.getD_eq_getElem?_getD, List.getElem?_set]
    by_cases e : t' = t
    · subst e
      rw [if_pos rfl, if_pos rfl, if_pos ht]
      simp only [List.length_append, List.length_singleton, Option.getD_some]
      rw [h.len t' ht]
      simp [Bd.gen, List.getD_eq_getElem?_getD]
    · rw [if_neg e, if_neg (Ne.symm e)]
      have := h.len t' ht'
      unfold Bd.gen at this
      rw [List.getD_eq_getElem?_getD] at this
      exact this
  rec_ := fun t' g ht' => by
    simp only [List.length_set] at ht'
    have hg : ∀ T : Bd, T = { S with gens := S.gens.set t (S.gen t + 1), recs := pushS S t ws } → T.gen t' = if t' = t then S.gen t + 1 else S.gen t' := fun T hT => by
      rw [hT]
      unfold Bd.gen
      simp only [List.getD_eq_getElem?_getD, List.getElem?_set]
      by_cases e : t' = t
      · subst e; rw [if_pos rfl, if_pos rfl, if_pos ht]; rfl
      · rw [if_neg e, if_neg (Ne.symm e)]
    have hdep : ∀ T : Bd, T = { S with gens := S.gens.set t (S.gen t + 1), recs := pushS S t ws } → T.depth t' = S.depth t' := fun T hT => by rw [hT]; rfl
    rw [hg _ rfl, hdep _ rfl]
    show pushS S t ws t' g = _
    unfold pushS
    have hr := h.rec_ t' g ht'
    have hdt := hd t' ht'
    by_cases e : t' = t
    · subst e
      rw [if_pos rfl, if_pos rfl, if_pos rfl]
      have hl := h.len t' ht
      by_cases c1 : S.depth t' ≤ ((S.gen t' + 1 : Nat) : Int) ∧ (g : Int) = ((S.gen t' + 1 : Nat) : Int) - S.depth t'
      · rw [if_pos c1, if_neg (by omega)]
      · rw [if_neg c1]
        by_cases c2 : g = S.gen t' + 1
        · rw [if_pos c2, if_pos ⟨by omega, by omega⟩, c2, ← hl]
          simp
        · rw [if_neg c2, hr]
          by_cases c3 : g ≤ S.gen t' ∧ ((S.gen t' - g : Nat) : Int) < S.depth t'
          · rw [if_pos c3, if_pos ⟨by omega, by omega⟩, List.getElem?_append_left (by omega)]
          · rw [if_neg c3, if_neg (by omega)]
    · rw [if_neg e, if_neg e, if_neg e, hr]

end Go.Proofs.YtclgmikdjcjjdaaGreatDoor
