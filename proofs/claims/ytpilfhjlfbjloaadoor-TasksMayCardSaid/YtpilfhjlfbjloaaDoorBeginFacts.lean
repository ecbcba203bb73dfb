/-
  Plain facts on the places of the first parts of a list. No program in sight. Conditions: none.
-/
import Derived.Test.YtpilfhjlfbjloaaDoorEncode
namespace Go.Proofs.YtpilfhjlfbjloaaDoor

theorem go_take {ps : List (Int × Int)} : ∀ {a t k : Nat} {acc l : List (Nat × Nat)} {m : Nat}, placesGo ps a t acc = .ok (acc ++ l, m) → t ≤ 64 → a ≤ 63 → k ≤ ps.length →
    ∃ m', placesGo (ps.take k) a t acc = .ok (acc ++ l.take k, m') ∧ m' ≤ m := by
  induction ps with
  | nil =>
    intro a t k acc l m h _ _ _
    refine ⟨m, ?_, Nat.le_refl _⟩
    rw [List.take_nil, h]
    simp only [placesGo, Except.ok.injEq, Prod.mk.injEq] at h
    have : l = [] := by have := h.1; simpa using this
    simp [this]
  | cons p ps ih =>
    obtain ⟨z, n⟩ := p
    intro a t k acc l m h ht ha hk
    have hF := go_facts h ht ha
    cases k with
    | zero =>
      obtain ⟨_, _, _, h1, _, _⟩ := hF
      exact ⟨a + 1, by simp [placesGo], by omega⟩
    | succ k =>
      rw [List.take_succ_cons]
      have hk' : k ≤ ps.length := by simpa using hk
      by_cases h1 : z < 0 ∨ 4 ≤ z
      · rw [go_kind h1] at h; cases h
      by_cases h2 : n < loS z ∨ hiS z < n
      · rw [go_len h1 h2] at h; cases h
      have hlo := lo_bd z
      have hhi := hi_bd z
      by_cases h3 : 64 - (t : Int) < n
      · by_cases h4 : 63 ≤ a
        · rw [go_full h1 h2 h3 h4] at h; cases h
        · rw [go_next h1 h2 h3 h4] at h
          obtain ⟨l', e', _⟩ := go_facts h (by omega) (by omega)
          have el : l = (a + 1, 0) :: l' := by simpa using e'
          subst el
          obtain ⟨m', hm, hle⟩ := ih (l := l') (m := m) (k := k) (by rw [h]; simp) (by omega) (by omega) hk'
          exact ⟨m', by rw [go_next h1 h2 h3 h4, hm]; simp, hle⟩
      · rw [go_here h1 h2 h3] at h
        obtain ⟨l', e', _⟩ := go_facts h (by omega) ha
        have el : l = (a, t) :: l' := by simpa using e'
        subst el
        obtain ⟨m', hm, hle⟩ := ih (l := l') (m := m) (k := k) (by rw [h]; simp) (by omega) ha hk'
        exact ⟨m', by rw [go_here h1 h2 h3, hm]; simp, hle⟩

theorem go_chain {ps : List (Int × Int)} : ∀ {a t : Nat} {acc l : List (Nat × Nat)} {m : Nat}, placesGo ps a t acc = .ok (acc ++ l, m) → t ≤ 64 → a ≤ 63 →
    (∀ h : 0 < l.length, a ≤ l[0].1 ∧ (l[0].1 = a → l[0].2 = t)) ∧
    ∀ i (h : i + 1 < l.length) (h' : i < ps.length), l[i].1 ≤ l[i + 1].1 ∧ (l[i + 1].1 = l[i].1 → (l[i + 1].2 : Int) = (l[i].2 : Int) + ps[i].2) := by
  induction ps with
  | nil =>
    intro a t acc l m h _ _
    simp only [placesGo, Except.ok.injEq, Prod.mk.injEq] at h
    have : l = [] := by have := h.1; simpa using this
    subst this
    exact ⟨fun h => by simp at h, fun i h => by simp at h⟩
  | cons p ps ih =>
    obtain ⟨z, n⟩ := p
    intro a t acc l m h ht ha
    by_cases h1 : z < 0 ∨ 4 ≤ z
    · rw [go_kind h1] at h; cases h
    by_cases h2 : n < loS z ∨ hiS z < n
    · rw [go_len h1 h2] at h; cases h
    have hlo := lo_bd z
    have hhi := hi_bd z
    by_cases h3 : 64 - (t : Int) < n
    · by_cases h4 : 63 ≤ a
      · rw [go_full h1 h2 h3 h4] at h; cases h
      · rw [go_next h1 h2 h3 h4] at h
        obtain ⟨l', e', _⟩ := go_facts h (by omega) (by omega)
        have el : l = (a + 1, 0) :: l' := by simpa using e'
        subst el
        obtain ⟨g0, g1⟩ := ih (l := l') (m := m) (by rw [h]; simp) (by omega) (by omega)
        refine ⟨fun _ => ⟨by simp, fun e => by simp at e⟩, fun i h h' => ?_⟩
        cases i with
        | zero =>
          have := g0 (by simpa using h)
          refine ⟨by simpa using this.1, fun e => ?_⟩
          have := this.2 (by simpa using e)
          simp only [List.getElem_cons_succ, List.getElem_cons_zero, this]
          omega
        | succ i => exact g1 i (by simpa using h) (by simpa using h')
    · rw [go_here h1 h2 h3] at h
      obtain ⟨l', e', _⟩ := go_facts h (by omega) ha
      have el : l = (a, t) :: l' := by simpa using e'
      subst el
      obtain ⟨g0, g1⟩ := ih (l := l') (m := m) (by rw [h]; simp) (by omega) ha
      refine ⟨fun _ => ⟨by simp, fun _ => by simp⟩, fun i h h' => ?_⟩
      cases i with
      | zero =>
        have := g0 (by simpa using h)
        refine ⟨by simpa using this.1, fun e => ?_⟩
        have := this.2 (by simpa using e)
        simp only [List.getElem_cons_succ, List.getElem_cons_zero, this]
        omega
      | succ i => exact g1 i (by simpa using h) (by simpa using h')

/-- The places of the first k parts. -/
theorem places_take {ps : List (Int × Int)} {pl : List (Nat × Nat)} {m k : Nat} (h : placesS ps = .ok (pl, m)) (hk0 : 0 < k) (hk : k ≤ ps.length) :
    ∃ m', placesS (ps.take k) = .ok (pl.take k, m') ∧ m' ≤ m := by
  unfold placesS at h
  split at h
  · cases h
  · obtain ⟨l, e, _⟩ := go_facts h (by omega) (by omega)
    have el : pl = l := by simpa using e
    subst el
    obtain ⟨m', hm, hle⟩ := go_take (acc := []) (l := pl) (k := k) (by simpa using h) (by omega) (by omega) hk
    refine ⟨m', ?_, hle⟩
    rw [placesS, if_neg (by rw [List.length_take]; omega), hm]
    simp

/-- Each place and the one before it. -/
theorem places_chain {ps : List (Int × Int)} {pl : List (Nat × Nat)} {m : Nat} (h : placesS ps = .ok (pl, m)) :
    ∀ i (h : i + 1 < pl.length) (h' : i < ps.length), pl[i].1 ≤ pl[i + 1].1 ∧ (pl[i + 1].1 = pl[i].1 → (pl[i + 1].2 : Int) = (pl[i].2 : Int) + ps[i].2) := by
  unfold placesS at h
  split at h
  · cases h
  · exact (go_chain (acc := []) (l := pl) (by simpa using h) (by omega) (by omega)).2

theorem go_code {ps : List (Int × Int)} : ∀ {a t : Nat} {acc : List (Nat × Nat)} {c : Int}, placesGo ps a t acc = .error c → c = 1 ∨ c = 10 ∨ c = 12 := by
  induction ps with
  | nil => intro a t acc c h; simp [placesGo] at h
  | cons p ps ih =>
    obtain ⟨z, n⟩ := p
    intro a t acc c h
    rw [placesGo] at h
    split at h
    · cases h; omega
    split at h
    · cases h; omega
    split at h
    · split at h
      · cases h; omega
      · exact ih h
    · exact ih h

theorem places_code {ps : List (Int × Int)} {c : Int} (h : placesS ps = .error c) : c = 1 ∨ c = 10 ∨ c = 12 := by
  unfold placesS at h
  split at h
  · cases h; omega
  · exact go_code h

end Go.Proofs.YtpilfhjlfbjloaaDoor
