/-
  An argument that is a config, opened into its numbers and names. Conditions: none.
-/
import Derived.Test.YtbbcajnbdebmfaaDoorBFrame
import Derived.Test.YtbbcajnbdebmfaaDoorGCheck
import Derived.Lib.SmallJoins
namespace Go.Proofs.YtbbcajnbdebmfaaDoor
open Go.ChangeShapes Go.WideShapes Go.ChangeAt Go.RowKit Go.Deep

/-- Functions on numbers below n that exist one by one exist at once. -/
theorem choose_below {α : Type} (n : Nat) (p : Nat → α → Prop) (h : ∀ i, i < n → ∃ x, p i x) : ∃ l : List α, l.length = n ∧ ∀ i (hi : i < l.length), p i l[i] := by
  induction n with
  | zero => exact ⟨[], rfl, fun i hi => by simp at hi⟩
  | succ n ih =>
    obtain ⟨l, hl, hp⟩ := ih fun i hi => h i (by omega)
    obtain ⟨x, hx⟩ := h n (by omega)
    refine ⟨l ++ [x], by simp [hl], fun i hi => ?_⟩
    by_cases hin : i < l.length
    · rw [List.getElem_append_left hin]; exact hp i hin
    · have : i = l.length := by simp at hi; omega
      subst this
      rw [List.getElem_append_right (Nat.le_refl _)]
      simp only [Nat.sub_self, List.getElem_cons_zero]
      rw [hl]; exact hx

theorem add_plain (b o j : Nat) : (Addr.add ⟨b, o, none⟩ j) = ⟨b, o + j, none⟩ := by
  unfold Addr.add
  by_cases h : j = 0
  · simp [h]
  · simp [h]

set_option maxRecDepth 100000 in
/-- A row of topics. -/
theorem open_topics {H : Type} {enc : TypeId × Value → H} {w : World} {held : Bool} {fuel : Nat} {v : Value} {x : DataW H × List MemPlace}
    (h : DataW.trod enc Tryd.prog w 0 (fun _ => true) held fuel 22 [v] = some x) : ∃ ts : List Tp, Rd w v 3 ts.length (flatT ts) := by
  have c9 : Tryd.prog.cellsOf 9 = 1 := by kernel_rfl
  have c3 : Tryd.prog.cellsOf 3 = 1 := by kernel_rfl
  have hce : Tryd.prog.cellsOf 38 = 3 := by kernel_rfl
  rcases open_slice Tryd.underlying22 h with ⟨hcs, -⟩ | ⟨a, len, cap, m, n, D, Pl, hcs, -, hl, hm, hmm, -, hi⟩
  · simp only [List.cons.injEq, and_true] at hcs
    subst hcs
    exact ⟨[], Rd.nil w 3⟩
  · simp only [List.cons.injEq, and_true] at hcs
    subst hcs
    have hlm : len ≤ m := by rw [hmm]; split <;> omega
    obtain ⟨b, o, spot⟩ := a
    have hnum : ∀ i, i < len → ∃ t : Tp, w.cell? (Addr.add ⟨b, o, spot⟩ (i * 3)) = some (.string t.1) ∧ w.cell? (Addr.add ⟨b, o, spot⟩ (i * 3 + 1)) = some (.int .i64 t.2.1) ∧ w.cell? (Addr.add ⟨b, o, spot⟩ (i * 3 + 2)) = some (.int .i64 t.2.2) := by
      intro i hil
      obtain ⟨cs', h1, h2⟩ := hi i (by omega)
      rw [hce] at h1
      obtain ⟨_, hlen, hcell⟩ := World.cells?_some h1
      obtain ⟨xs, k, hk, hxy, _, hxl, hf⟩ := DataW.trod_struct Tryd.underlying38 h2
      match xs, hxl, cs', hlen with
      | [y0, y1, y2], _, [v0, v1, v2], _ =>
        have g0 := hf 0 _ rfl
        have g1 := hf 1 _ rfl
        have g2 := hf 2 _ rfl
        simp [c9, c3] at g0 g1 g2
        have e0 := hcell 0 (by omega)
        have e1 := hcell 1 (by omega)
        have e2 := hcell 2 (by omega)
        rw [add_add] at e0 e1 e2
        obtain ⟨s, hs, -, -⟩ := DataW.trod_string Tryd.underlying9 g0
        obtain ⟨z1, hz1, -, -⟩ := DataW.trod_int Tryd.underlying3 g1
        obtain ⟨z2, hz2, -, -⟩ := DataW.trod_int Tryd.underlying3 g2
        simp only [List.cons.injEq, and_true] at hs hz1 hz2
        subst hs
        subst hz1
        subst hz2
        exact ⟨(s, z1, z2), by simpa using e0, by simpa using e1, by simpa using e2⟩
    obtain ⟨ts, hts, hat⟩ := choose_below len _ hnum
    refine ⟨ts, flatT_len ts, some ⟨b, o, spot⟩, cap, by rw [hts], by omega, hm, fun hpos => ?_⟩
    rw [hts] at hpos
    have h0 := (hat 0 (by omega)).1
    have hspot : spot = none := by simpa [Addr.add] using World.cell?_spot h0
    subst hspot
    refine ⟨b, o, rfl, ?_, fun j u hj => ?_⟩
    · have hc := h0
      simp only [World.cell?, Addr.add] at hc
      by_cases hbl : b < w.heap.size
      · exact hbl
      · have hn : w.heap[b]? = none := Array.getElem?_eq_none (Nat.le_of_not_lt hbl)
        simp [hn] at hc
    · have hj2 : j / 3 < ts.length := by
        have : j < (flatT ts).length := (List.getElem?_eq_some_iff.1 hj).1
        rw [flatT_len] at this
        omega
      have h1 := hat (j / 3) hj2
      have h2 := flatT_at ts (j / 3) hj2
      have hm3 : j % 3 = 0 ∨ j % 3 = 1 ∨ j % 3 = 2 := by omega
      rcases hm3 with hm2 | hm2 | hm2
      · have e : j / 3 * 3 = j := by omega
        rw [e] at h1 h2
        rw [h2.1] at hj
        cases hj
        rw [← add_plain]
        exact h1.1
      · have e : j / 3 * 3 + 1 = j := by omega
        rw [e] at h1 h2
        rw [h2.2.1] at hj
        cases hj
        rw [← add_plain]
        exact h1.2.1
      · have e : j / 3 * 3 + 2 = j := by omega
        rw [e] at h1 h2
        rw [h2.2.2] at hj
        cases hj
        rw [← add_plain]
        exact h1.2.2

set_option maxRecDepth 100000 in
/-- An argument that is a config. -/
theorem open_config {H : Type} {enc : TypeId × Value → H} {w : World} {base : Nat} {held : Bool} {v : Value} {d : DataW H} {p : List MemPlace}
    (hok : Value.okWide Tryd.prog w .any base 24 v) (h : DataW.Trod enc Tryd.prog w 0 (fun _ => true) held 24 v d p) :
    ∃ (a b c : Int) (u : Value) (ts : List Tp), v = cfgV a u b c ∧ Rd w u 3 ts.length (flatT ts) := by
  obtain ⟨v0, v1, v2, v3, y0, y1, y2, y3, m, rfl, -, -, h0, h1, h2, h3⟩ := Joins.open_agg4 Tryd.underlying24 (by kernel_rfl) (by kernel_rfl) hok h
  obtain ⟨a, ha, -, -⟩ := DataW.trod_int Tryd.underlying3 h0
  obtain ⟨b, hb, -, -⟩ := DataW.trod_int Tryd.underlying3 h2
  obtain ⟨c, hc, -, -⟩ := DataW.trod_int Tryd.underlying3 h3
  simp only [List.cons.injEq, and_true] at ha hb hc
  subst ha
  subst hb
  subst hc
  obtain ⟨ts, hr⟩ := open_topics h1
  exact ⟨a, b, c, v1, ts, rfl, hr⟩

end Go.Proofs.YtbbcajnbdebmfaaDoor
