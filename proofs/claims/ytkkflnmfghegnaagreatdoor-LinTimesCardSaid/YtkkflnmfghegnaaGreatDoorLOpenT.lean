/-
  An argument that is a row of times, opened. Conditions: none.
-/
import Derived.Test.YtkkflnmfghegnaaGreatDoorBLaid
import Derived.Test.YtkkflnmfghegnaaGreatDoorLRef19
import Derived.Lib.SmallJoins
namespace Go.Proofs.YtkkflnmfghegnaaGreatDoor
set_option pp.deepTerms true
set_option pp.maxSteps 1000000
open Go.ChangeShapes Go.WideShapes Go.ChangeAt Go.RowKit Go.Deep

/-- Functions on numbers below n that exist one by one exist at once. -/
theorem choose_under {α : Type} (n : Nat) (p : Nat → α → Prop) (h : ∀ i, i < n → ∃ x, p i x) : ∃ l : List α, l.length = n ∧ ∀ i (hi : i < l.length), p i l[i] := by
  induction n with
  | zero => exact ⟨[], rfl, fun i hi => by simp at hi⟩
  | succ n ih =>
    obtain ⟨l, hl, hp⟩ := ih fun i hi => h i (by omega)
    obtain ⟨x, hx⟩ := h n (by omega)
    refine ⟨l ++ [x], by simp [hl], fun i hi => ?_⟩
    by_cases hin : i < l.length
    · rw [List.getElem_append_left hin]; exact hp i hin
    · have : i = l.length := by simp at hi; omega
      subst this
      rw [List.getElem_append_right (Nat.le_refl _)]
      simp only [Nat.sub_self, List.getElem_cons_zero]
      rw [hl]; exact hx

theorem block_of_cell' {w : World} {p : Addr} {v : Value} (h : w.cell? p = some v) : p.block < w.heap.size := by
  simp only [World.cell?] at h
  by_cases hbl : p.block < w.heap.size
  · exact hbl
  · have hn : w.heap[p.block]? = none := Array.getElem?_eq_none (Nat.le_of_not_lt hbl)
    simp [hn] at h

set_option maxRecDepth 100000 in
/-- A row of times. -/
theorem open_times {H : Type} {enc : TypeId × Value → H} {w : World} {held : Bool} {fuel : Nat} {v : Value} {x : DataW H × List MemPlace}
    (h : DataW.trod enc Tryz.prog w 0 (fun _ => true) held fuel 22 [v] = some x) : ∃ l : List Tm, Rd w v 4 l.length (flatM l) := by
  have c3 : Tryz.prog.cellsOf 3 = 1 := by kernel_rfl
  have hce : Tryz.prog.cellsOf 26 = 4 := by kernel_rfl
  rcases open_slice Tryz.underlying22 h with ⟨hcs, -⟩ | ⟨a, len, cap, m, n, D, Pl, hcs, -, hl, hm, hmm, -, hi⟩
  · simp only [List.cons.injEq, and_true] at hcs
    subst hcs
    exact ⟨[], Rd.nil w 4⟩
  · simp only [List.cons.injEq, and_true] at hcs
    subst hcs
    have hlm : len ≤ m := by rw [hmm]; split <;> omega
    obtain ⟨b, o, spot⟩ := a
    have hnum : ∀ i, i < len → ∃ t : Tm, w.cell? (Addr.add ⟨b, o, spot⟩ (i * 4)) = some (.int .i64 t.task) ∧ w.cell? (Addr.add ⟨b, o, spot⟩ (i * 4 + 1)) = some (.int .i64 t.fr) ∧ w.cell? (Addr.add ⟨b, o, spot⟩ (i * 4 + 2)) = some (.int .i64 t.at') ∧ w.cell? (Addr.add ⟨b, o, spot⟩ (i * 4 + 3)) = some (.int .i64 t.to') := by
      intro i hil
      obtain ⟨cs', h1, h2⟩ := hi i (by omega)
      rw [hce] at h1
      obtain ⟨_, hlen, hcell⟩ := World.cells?_some h1
      obtain ⟨xs, k, hk, hxy, _, hxl, hf⟩ := DataW.trod_struct Tryz.underlying26 h2
      match xs, hxl, cs', hlen with
      | [y0, y1, y2, y3], _, [v0, v1, v2, v3], _ =>
        have g0 := hf 0 _ rfl
        have g1 := hf 1 _ rfl
        have g2 := hf 2 _ rfl
        have g3 := hf 3 _ rfl
        simp [c3] at g0 g1 g2 g3
        have e0 := hcell 0 (by omega)
        have e1 := hcell 1 (by omega)
        have e2 := hcell 2 (by omega)
        have e3 := hcell 3 (by omega)
        rw [add_add] at e0 e1 e2 e3
        obtain ⟨z0, hz0, -, -⟩ := DataW.trod_int Tryz.underlying3 g0
        obtain ⟨z1, hz1, -, -⟩ := DataW.trod_int Tryz.underlying3 g1
        obtain ⟨z2, hz2, -, -⟩ := DataW.trod_int Tryz.underlying3 g2
        obtain ⟨z3, hz3, -, -⟩ := DataW.trod_int Tryz.underlying3 g3
        simp only [List.cons.injEq, and_true] at hz0 hz1 hz2 hz3
        subst hz0
        subst hz1
        subst hz2
        subst hz3
        exact ⟨⟨z0, z1, z2, z3⟩, by simpa using e0, by simpa using e1, by simpa using e2, by simpa using e3⟩
    obtain ⟨ts, hts, hat⟩ := choose_under len _ hnum
    refine ⟨ts, flatM_len ts, some ⟨b, o, spot⟩, cap, by rw [hts], by omega, hm, fun hpos => ?_⟩
    rw [hts] at hpos
    have h0 := (hat 0 (by omega)).1
    have hspot : spot = none := by simpa [Addr.add] using World.cell?_spot h0
    subst hspot
    refine ⟨b, o, rfl, ?_, fun j u hj => ?_⟩
    · have := block_of_cell' h0
      simpa [Addr.add] using this
    · obtain ⟨q, r, rfl, hr⟩ : ∃ q r, j = q * 4 + r ∧ r < 4 := ⟨j / 4, j % 4, by omega, by omega⟩
      have hj2 : q < ts.length := by
        have : q * 4 + r < (flatM ts).length := (List.getElem?_eq_some_iff.1 hj).1
        rw [flatM_len] at this
        omega
      obtain ⟨a0, a1, a2, a3⟩ := hat q hj2
      rw [Addr.add_mid] at a0 a1 a2 a3
      have hx : ts[q]? = some ts[q] := List.getElem?_eq_getElem hj2
      generalize ts[q] = t at a0 a1 a2 a3 hx
      have hu : (tmC t)[r]? = some u := by
        have hr' : (tmC t)[r]? = some ((tmC t)[r]'hr) := List.getElem?_eq_getElem hr
        have := flatM_at ts q t r _ hx hr'
        rw [hj] at this
        rw [hr', ← this]
      match r, hr, hu with
      | 0, _, hu => simp at hu; subst hu; exact a0
      | 1, _, hu => simp at hu; subst hu; exact a1
      | 2, _, hu => simp at hu; subst hu; exact a2
      | 3, _, hu => simp at hu; subst hu; exact a3

set_option maxRecDepth 100000 in
/-- An argument that is a row of times. -/
theorem open_timesArg {H : Type} {enc : TypeId × Value → H} {w : World} {base : Nat} {held : Bool} {v : Value} {d : DataW H} {p : List MemPlace}
    (hok : Value.okWide Tryz.prog w .any base 22 v) (h : DataW.Trod enc Tryz.prog w 0 (fun _ => true) held 22 v d p) : ∃ l : List Tm, Rd w v 4 l.length (flatM l) := by
  obtain ⟨a, n, c, rfl⟩ := okWide_slice Tryz.underlying22 hok
  obtain ⟨fuel, hf⟩ := h
  exact open_times (by simpa [Value.cells] using hf)

end Go.Proofs.YtkkflnmfghegnaaGreatDoor
