/-
  An argument that is a config, opened into its numbers and names. Conditions: none. An argument that is a row of acts, opened. Conditions: none.
-/
import Derived.Test.YtbbcajnbdebmfaaDoorBLaid
import Derived.Test.YtbbcajnbdebmfaaDoorGCheck
import Derived.Lib.SmallJoins
import Derived.Test.YtbbcajnbdebmfaaDoorBTwo
namespace Go.Proofs.YtbbcajnbdebmfaaDoor
open Go.ChangeShapes Go.WideShapes Go.ChangeAt Go.RowKit Go.Deep

/-- Functions on numbers below n that exist one by one exist at once. -/
theorem choose_below {α : Type} (n : Nat) (p : Nat → α → Prop) (h : ∀ i, i < n → ∃ x, p i x) : ∃ l : List α, l.length = n ∧ ∀ i (hi : i < l.length), p i l[i] := by
  induction n with
  | zero => exact ⟨[], rfl, fun i hi => by simp at hi⟩
  | succ n ih =>
    obtain ⟨l, hl, hp⟩ := ih fun i hi => h i (by omega)
    obtain ⟨x, hx⟩ := h n (by omega)
    refine ⟨l ++ [x], by simp [hl], fun i hi => ?_⟩
    by_cases hin : i < l.length
    · rw [List.getElem_append_left hin]; exact hp i hin
    · have : i = l.length := by simp at hi; omega
      subst this
      rw [List.getElem_append_right (Nat.le_refl _)]
      simp only [Nat.sub_self, List.getElem_cons_zero]
      rw [hl]; exact hx

theorem add_plain (b o j : Nat) : (Addr.add ⟨b, o, none⟩ j) = ⟨b, o + j, none⟩ := by
  unfold Addr.add
  by_cases h : j = 0
  · simp [h]
  · simp [h]

set_option maxRecDepth 100000 in
/-- A row of topics. -/
theorem open_topics {H : Type} {enc : TypeId × Value → H} {w : World} {held : Bool} {fuel : Nat} {v : Value} {x : DataW H × List MemPlace}
    (h : DataW.trod enc Tryd.prog w 0 (fun _ => true) held fuel 22 [v] = some x) : ∃ ts : List Tp, Rd w v 3 ts.length (flatT ts) := by
  have c9 : Tryd.prog.cellsOf 9 = 1 := by kernel_rfl
  have c3 : Tryd.prog.cellsOf 3 = 1 := by kernel_rfl
  have hce : Tryd.prog.cellsOf 38 = 3 := by kernel_rfl
  rcases open_slice Tryd.underlying22 h with ⟨hcs, -⟩ | ⟨a, len, cap, m, n, D, Pl, hcs, -, hl, hm, hmm, -, hi⟩
  · simp only [List.cons.injEq, and_true] at hcs
    subst hcs
    exact ⟨[], Rd.nil w 3⟩
  · simp only [List.cons.injEq, and_true] at hcs
    subst hcs
    have hlm : len ≤ m := by rw [hmm]; split <;> omega
    obtain ⟨b, o, spot⟩ := a
    have hnum : ∀ i, i < len → ∃ t : Tp, w.cell? (Addr.add ⟨b, o, spot⟩ (i * 3)) = some (.string t.1) ∧ w.cell? (Addr.add ⟨b, o, spot⟩ (i * 3 + 1)) = some (.int .i64 t.2.1) ∧ w.cell? (Addr.add ⟨b, o, spot⟩ (i * 3 + 2)) = some (.int .i64 t.2.2) := by
      intro i hil
      obtain ⟨cs', h1, h2⟩ := hi i (by omega)
      rw [hce] at h1
      obtain ⟨_, hlen, hcell⟩ := World.cells?_some h1
      obtain ⟨xs, k, hk, hxy, _, hxl, hf⟩ := DataW.trod_struct Tryd.underlying38 h2
      match xs, hxl, cs', hlen with
      | [y0, y1, y2], _, [v0, v1, v2], _ =>
        have g0 := hf 0 _ rfl
        have g1 := hf 1 _ rfl
        have g2 := hf 2 _ rfl
        simp [c9, c3] at g0 g1 g2
        have e0 := hcell 0 (by omega)
        have e1 := hcell 1 (by omega)
        have e2 := hcell 2 (by omega)
        rw [add_add] at e0 e1 e2
        obtain ⟨s, hs, -, -⟩ := DataW.trod_string Tryd.underlying9 g0
        obtain ⟨z1, hz1, -, -⟩ := DataW.trod_int Tryd.underlying3 g1
        obtain ⟨z2, hz2, -, -⟩ := DataW.trod_int Tryd.underlying3 g2
        simp only [List.cons.injEq, and_true] at hs hz1 hz2
        subst hs
        subst hz1
        subst hz2
        exact ⟨(s, z1, z2), by simpa using e0, by simpa using e1, by simpa using e2⟩
    obtain ⟨ts, hts, hat⟩ := choose_below len _ hnum
    refine ⟨ts, flatT_len ts, some ⟨b, o, spot⟩, cap, by rw [hts], by omega, hm, fun hpos => ?_⟩
    rw [hts] at hpos
    have h0 := (hat 0 (by omega)).1
    have hspot : spot = none := by simpa [Addr.add] using World.cell?_spot h0
    subst hspot
    refine ⟨b, o, rfl, ?_, fun j u hj => ?_⟩
    · have hc := h0
      simp only [World.cell?, Addr.add] at hc
      by_cases hbl : b < w.heap.size
      · exact hbl
      · have hn : w.heap[b]? = none := Array.getElem?_eq_none (Nat.le_of_not_lt hbl)
        simp [hn] at hc
    · have hj2 : j / 3 < ts.length := by
        have : j < (flatT ts).length := (List.getElem?_eq_some_iff.1 hj).1
        rw [flatT_len] at this
        omega
      have h1 := hat (j / 3) hj2
      have h2 := flatT_at ts (j / 3) hj2
      have hm3 : j % 3 = 0 ∨ j % 3 = 1 ∨ j % 3 = 2 := by omega
      rcases hm3 with hm2 | hm2 | hm2
      · have e : j / 3 * 3 = j := by omega
        rw [e] at h1 h2
        rw [h2.1] at hj
        cases hj
        rw [← add_plain]
        exact h1.1
      · have e : j / 3 * 3 + 1 = j := by omega
        rw [e] at h1 h2
        rw [h2.2.1] at hj
        cases hj
        rw [← add_plain]
        exact h1.2.1
      · have e : j / 3 * 3 + 2 = j := by omega
        rw [e] at h1 h2
        rw [h2.2.2] at hj
        cases hj
        rw [← add_plain]
        exact h1.2.2

set_option maxRecDepth 100000 in
/-- An argument that is a config. -/
theorem open_config {H : Type} {enc : TypeId × Value → H} {w : World} {base : Nat} {held : Bool} {v : Value} {d : DataW H} {p : List MemPlace}
    (hok : Value.okWide Tryd.prog w .any base 24 v) (h : DataW.Trod enc Tryd.prog w 0 (fun _ => true) held 24 v d p) :
    ∃ (a b c : Int) (u : Value) (ts : List Tp), v = cfgV a u b c ∧ Rd w u 3 ts.length (flatT ts) := by
  obtain ⟨v0, v1, v2, v3, y0, y1, y2, y3, m, rfl, -, -, h0, h1, h2, h3⟩ := Joins.open_agg4 Tryd.underlying24 (by kernel_rfl) (by kernel_rfl) hok h
  obtain ⟨a, ha, -, -⟩ := DataW.trod_int Tryd.underlying3 h0
  obtain ⟨b, hb, -, -⟩ := DataW.trod_int Tryd.underlying3 h2
  obtain ⟨c, hc, -, -⟩ := DataW.trod_int Tryd.underlying3 h3
  simp only [List.cons.injEq, and_true] at ha hb hc
  subst ha
  subst hb
  subst hc
  obtain ⟨ts, hr⟩ := open_topics h1
  exact ⟨a, b, c, v1, ts, rfl, hr⟩

end Go.Proofs.YtbbcajnbdebmfaaDoor

namespace Go.Proofs.YtbbcajnbdebmfaaDoor
open Go.ChangeShapes Go.WideShapes Go.ChangeAt Go.RowKit Go.Deep

theorem block_of_cell {w : World} {p : Addr} {v : Value} (h : w.cell? p = some v) : p.block < w.heap.size := by
  simp only [World.cell?] at h
  by_cases hbl : p.block < w.heap.size
  · exact hbl
  · have hn : w.heap[p.block]? = none := Array.getElem?_eq_none (Nat.le_of_not_lt hbl)
    simp [hn] at h

set_option maxRecDepth 100000 in
/-- A row of elements of one cell each. -/
theorem open_row1 {H : Type} {enc : TypeId × Value → H} {w : World} {held : Bool} {fuel : Nat} {t e : TypeId} {v : Value} {x : DataW H × List MemPlace} {α : Type} (f : α → Value)
    (ht : Tryd.prog.underlying t = some (.slice e)) (hce : Tryd.prog.cellsOf e = 1)
    (hop : ∀ n v x, DataW.trod enc Tryd.prog w 0 (fun _ => true) held n e [v] = some x → ∃ z, v = f z)
    (h : DataW.trod enc Tryd.prog w 0 (fun _ => true) held fuel t [v] = some x) : ∃ zs : List α, Rd w v 1 zs.length (zs.map f) := by
  rcases open_slice1 ht hce h with ⟨hcs, -⟩ | ⟨a, len, cap, m, n, V, D, Pl, hcs, -, hl, hm, hmm, -, hi⟩
  · simp only [List.cons.injEq, and_true] at hcs
    subst hcs
    exact ⟨[], Rd.nil w 1⟩
  · simp only [List.cons.injEq, and_true] at hcs
    subst hcs
    have hlm : len ≤ m := by rw [hmm]; split <;> omega
    obtain ⟨b, o, spot⟩ := a
    have hnum : ∀ i, i < len → ∃ z : α, w.cell? (Addr.add ⟨b, o, spot⟩ i) = some (f z) := by
      intro i hil
      obtain ⟨h1, h2⟩ := hi i (by omega)
      obtain ⟨z, hz⟩ := hop _ _ _ h2
      exact ⟨z, by rw [h1, hz]⟩
    obtain ⟨zs, hzs, hat⟩ := choose_below len _ hnum
    refine ⟨zs, by simp, some ⟨b, o, spot⟩, cap, by rw [hzs], by omega, hm, fun hpos => ?_⟩
    rw [hzs] at hpos
    have h0 := hat 0 (by omega)
    have hspot : spot = none := by simpa [Addr.add] using World.cell?_spot h0
    subst hspot
    refine ⟨b, o, rfl, ?_, fun j u hj => ?_⟩
    · have := block_of_cell h0
      simpa [Addr.add] using this
    · have hjl : j < zs.length := by
        have := (List.getElem?_eq_some_iff.1 hj).1
        simpa using this
      have h1 := hat j hjl
      rw [List.getElem?_map, List.getElem?_eq_getElem hjl] at hj
      cases hj
      rw [← add_plain]
      exact h1

set_option maxRecDepth 100000 in
theorem open_ints {H : Type} {enc : TypeId × Value → H} {w : World} {held : Bool} {fuel : Nat} {v : Value} {x : DataW H × List MemPlace}
    (h : DataW.trod enc Tryd.prog w 0 (fun _ => true) held fuel 40 [v] = some x) : ∃ zs : List Int, Rd w v 1 zs.length (zs.map (Value.int .i64)) :=
  open_row1 (Value.int .i64) Tryd.underlying40 (by kernel_rfl) (fun n v x h => by
    obtain ⟨z, hz, -, -⟩ := DataW.trod_int Tryd.underlying3 h
    simp only [List.cons.injEq, and_true] at hz
    exact ⟨z, hz⟩) h

set_option maxRecDepth 100000 in
theorem open_words {H : Type} {enc : TypeId × Value → H} {w : World} {held : Bool} {fuel : Nat} {v : Value} {x : DataW H × List MemPlace}
    (h : DataW.trod enc Tryd.prog w 0 (fun _ => true) held fuel 36 [v] = some x) : ∃ zs : List Int, Rd w v 1 zs.length (u64V zs) :=
  open_row1 (Value.int .u64) Tryd.underlying36 (by kernel_rfl) (fun n v x h => by
    obtain ⟨z, hz, -, -⟩ := DataW.trod_int Tryd.underlying41 h
    simp only [List.cons.injEq, and_true] at hz
    exact ⟨z, hz⟩) h

/-- An act's twelve cells, given by their walk. -/
def actCells (a : Ac) : List Value := [.int .i64 a.task, .int .i64 a.c.kind, .int .i64 a.c.topic, .int .i64 a.c.sub, .int .i64 a.c.cap, .int .i64 a.c.rank, .int .i64 a.c.source, .int .i64 a.c.mode, .int .i64 a.c.flags, .bool a.c.free, a.sv, a.wv]

set_option maxRecDepth 100000 in
/-- One act. -/
theorem open_act {H : Type} {enc : TypeId × Value → H} {w : World} {held : Bool} {fuel : Nat} {cs : List Value} {x : DataW H × List MemPlace}
    (h : DataW.trod enc Tryd.prog w 0 (fun _ => true) held fuel 50 cs = some x) :
    ∃ a : Ac, cs = actCells a ∧ Rd w a.sv 1 a.c.set.length (a.c.set.map (Value.int .i64)) ∧ Rd w a.wv 1 a.c.words.length (u64V a.c.words) := by
  have c1 : Tryd.prog.cellsOf 3 = 1 := by kernel_rfl
  have c2 : Tryd.prog.cellsOf 4 = 1 := by kernel_rfl
  have c3 : Tryd.prog.cellsOf 40 = 1 := by kernel_rfl
  have c4 : Tryd.prog.cellsOf 36 = 1 := by kernel_rfl
  have c5 : Tryd.prog.cellsOf 48 = 11 := by kernel_rfl
  have c6 : Tryd.prog.cellsOf 50 = 12 := by kernel_rfl
  obtain ⟨xs, k, hk, hxy, hcl, hxl, hf⟩ := DataW.trod_struct Tryd.underlying50 h
  rw [c6] at hcl
  match cs, hcl with
  | [v0, v1, v2, v3, v4, v5, v6, v7, v8, v9, v10, v11], _ =>
    match xs, hxl with
    | [y0, y1], _ =>
      have g0 := hf 0 _ rfl
      have g1 := hf 1 _ rfl
      simp [c1, c5] at g0 g1
      obtain ⟨ys, k', hk', hyx, hcl', hyl, hf'⟩ := DataW.trod_struct Tryd.underlying48 g1
      match ys, hyl with
      | [z1, z2, z3, z4, z5, z6, z7, z8, z9, z10, z11], _ =>
        have e1 := hf' 0 _ rfl
        have e2 := hf' 1 _ rfl
        have e3 := hf' 2 _ rfl
        have e4 := hf' 3 _ rfl
        have e5 := hf' 4 _ rfl
        have e6 := hf' 5 _ rfl
        have e7 := hf' 6 _ rfl
        have e8 := hf' 7 _ rfl
        have e9 := hf' 8 _ rfl
        have e10 := hf' 9 _ rfl
        have e11 := hf' 10 _ rfl
        simp [c1, c2, c3, c4] at e1 e2 e3 e4 e5 e6 e7 e8 e9 e10 e11
        obtain ⟨a0, h0, -, -⟩ := DataW.trod_int Tryd.underlying3 g0
        obtain ⟨a1, h1, -, -⟩ := DataW.trod_int Tryd.underlying3 e1
        obtain ⟨a2, h2, -, -⟩ := DataW.trod_int Tryd.underlying3 e2
        obtain ⟨a3, h3, -, -⟩ := DataW.trod_int Tryd.underlying3 e3
        obtain ⟨a4, h4, -, -⟩ := DataW.trod_int Tryd.underlying3 e4
        obtain ⟨a5, h5, -, -⟩ := DataW.trod_int Tryd.underlying3 e5
        obtain ⟨a6, h6, -, -⟩ := DataW.trod_int Tryd.underlying3 e6
        obtain ⟨a7, h7, -, -⟩ := DataW.trod_int Tryd.underlying3 e7
        obtain ⟨a8, h8, -, -⟩ := DataW.trod_int Tryd.underlying3 e8
        obtain ⟨a9, h9, -⟩ := DataW.trod_bool Tryd.underlying4 e9
        obtain ⟨a10, h10⟩ := open_ints e10
        obtain ⟨a11, h11⟩ := open_words e11
        simp only [List.cons.injEq, and_true] at h0 h1 h2 h3 h4 h5 h6 h7 h8 h9
        subst h0 h1 h2 h3 h4 h5 h6 h7 h8 h9
        exact ⟨⟨a0, ⟨a1, a2, a3, a4, a5, a6, a7, a8, a9, a10, a11⟩, v10, v11⟩, rfl, h10, h11⟩

set_option maxRecDepth 100000 in
/-- An argument that is a row of acts. -/
theorem open_acts {H : Type} {enc : TypeId × Value → H} {w : World} {held : Bool} {fuel : Nat} {v : Value} {x : DataW H × List MemPlace}
    (h : DataW.trod enc Tryd.prog w 0 (fun _ => true) held fuel 25 [v] = some x) : ∃ l : List Ac, ActsAt w v l := by
  have hce : Tryd.prog.cellsOf 50 = 12 := by kernel_rfl
  rcases open_slice Tryd.underlying25 h with ⟨hcs, -⟩ | ⟨a, len, cap, m, n, D, Pl, hcs, -, hl, hm, hmm, -, hi⟩
  · simp only [List.cons.injEq, and_true] at hcs
    subst hcs
    exact ⟨[], none, 0, rfl, Nat.le_refl _, by simp [maxLen], fun h => by simp at h⟩
  · simp only [List.cons.injEq, and_true] at hcs
    subst hcs
    have hlm : len ≤ m := by rw [hmm]; split <;> omega
    obtain ⟨b, o, spot⟩ := a
    have hnum : ∀ i, i < len → ∃ a : Ac, (∀ j u, (actCells a)[j]? = some u → w.cell? (Addr.add ⟨b, o, spot⟩ (i * 12 + j)) = some u) ∧ Rd w a.sv 1 a.c.set.length (a.c.set.map (Value.int .i64)) ∧ Rd w a.wv 1 a.c.words.length (u64V a.c.words) := by
      intro i hil
      obtain ⟨cs', h1, h2⟩ := hi i (by omega)
      rw [hce] at h1
      obtain ⟨_, hlen, hcell⟩ := World.cells?_some h1
      obtain ⟨a, rfl, h3, h4⟩ := open_act h2
      refine ⟨a, fun j u hj => ?_, h3, h4⟩
      have hj12 : j < 12 := (List.getElem?_eq_some_iff.1 hj).1
      have := hcell j hj12
      rw [add_add] at this
      rw [this]
      rw [← hj]
    obtain ⟨l, hl', hat⟩ := choose_below len _ hnum
    refine ⟨l, some ⟨b, o, spot⟩, cap, by rw [hl'], by omega, hm, fun hpos => ?_⟩
    rw [hl'] at hpos
    have h0 := (hat 0 (by omega)).1 0 _ rfl
    have hspot : spot = none := by simpa [Addr.add] using World.cell?_spot h0
    subst hspot
    have hb : b < w.heap.size := by simpa [Addr.add] using block_of_cell h0
    refine ⟨b, o, rfl, hb, fun i a ha => ?_⟩
    obtain ⟨hil, rfl⟩ := List.getElem?_eq_some_iff.1 ha
    obtain ⟨h1, h2, h3⟩ := hat i hil
    have hc : ∀ j u, (actCells l[i])[j]? = some u → w.cell? ⟨b, o + i * 12 + j, none⟩ = some u := fun j u hj => by
      have := h1 j u hj
      rwa [add_plain, ← Nat.add_assoc] at this
    exact ⟨hc 0 _ rfl, hc 1 _ rfl, hc 2 _ rfl, hc 3 _ rfl, hc 4 _ rfl, hc 5 _ rfl, hc 6 _ rfl, hc 7 _ rfl, hc 8 _ rfl, hc 9 _ rfl, hc 10 _ rfl, hc 11 _ rfl, hb, h2, h3⟩

set_option maxRecDepth 100000 in
theorem open_actsArg {H : Type} {enc : TypeId × Value → H} {w : World} {base : Nat} {held : Bool} {v : Value} {d : DataW H} {p : List MemPlace}
    (hok : Value.okWide Tryd.prog w .any base 25 v) (h : DataW.Trod enc Tryd.prog w 0 (fun _ => true) held 25 v d p) : ∃ l : List Ac, ActsAt w v l := by
  obtain ⟨a, n, c, rfl⟩ := okWide_slice Tryd.underlying25 hok
  obtain ⟨fuel, hf⟩ := h
  exact open_acts (by simpa [Value.cells] using hf)

set_option maxRecDepth 100000 in
theorem open_actArg {H : Type} {enc : TypeId × Value → H} {w : World} {base : Nat} {held : Bool} {v : Value} {d : DataW H} {p : List MemPlace}
    (hok : Value.okWide Tryd.prog w .any base 50 v) (h : DataW.Trod enc Tryd.prog w 0 (fun _ => true) held 50 v d p) :
    ∃ x : Ac, v = actV1 x ∧ Rd w x.sv 1 x.c.set.length (x.c.set.map (Value.int .i64)) ∧ Rd w x.wv 1 x.c.words.length (u64V x.c.words) := by
  obtain ⟨cs, rfl, -⟩ := okWide_struct Tryd.underlying50 hok
  obtain ⟨fuel, hf⟩ := h
  obtain ⟨a, ha, h1, h2⟩ := open_act hf
  refine ⟨a, ?_, h1, h2⟩
  have : cs.toList = actCells a := by simpa [Value.cells] using ha
  obtain ⟨cl⟩ := cs
  simp only at this
  subst this
  rfl

set_option maxRecDepth 100000 in
/-- An argument that is two whole numbers. -/
theorem open_two {H : Type} {enc : TypeId × Value → H} {w : World} {base : Nat} {held : Bool} {v : Value} {d : DataW H} {p : List MemPlace}
    (hok : Value.okWide Tryd.prog w .any base 53 v) (h : DataW.Trod enc Tryd.prog w 0 (fun _ => true) held 53 v d p) :
    ∃ x y : Int, v = .agg #[.int .i64 x, .int .i64 y] := by
  obtain ⟨fuel, hf⟩ := h
  obtain ⟨xs, m, -, hx, hl, hxl, hi⟩ := DataW.trod_array Tryd.underlying53 hf
  have hct : Tryd.prog.cellsOf 53 = 2 := by kernel_rfl
  have hce : Tryd.prog.cellsOf 3 = 1 := by kernel_rfl
  rw [hct] at hl
  match xs, hxl with
  | [y0, y1], _ =>
    have h0 := hi 0 (by omega)
    have h1 := hi 1 (by omega)
    rw [hce] at h0 h1
    obtain ⟨cl, hcl⟩ : ∃ cl, cl = v.cells.toList := ⟨_, rfl⟩
    rw [← hcl] at hl h0 h1
    match cl, hl with
    | [c0, c1], _ =>
      obtain ⟨x, hx0, -, -⟩ := DataW.trod_int Tryd.underlying3 (show _ = some y0 from h0)
      obtain ⟨y, hy0, -, -⟩ := DataW.trod_int Tryd.underlying3 (show _ = some y1 from h1)
      simp at hx0 hy0
      subst hx0 hy0
      refine ⟨x, y, ?_⟩
      cases v <;> simp [Value.cells] at hcl
      rename_i cs
      obtain ⟨cl⟩ := cs
      simp only at hcl
      subst hcl
      rfl

end Go.Proofs.YtbbcajnbdebmfaaDoor
